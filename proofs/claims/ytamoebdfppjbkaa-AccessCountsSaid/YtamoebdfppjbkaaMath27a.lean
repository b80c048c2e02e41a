/- Layer 27 in plain Lean: octets between quotation marks. No program in sight; no condition. -/
import Derived.Test.YtamoebdfppjbkaaMath3
namespace IH

def isPlain27 (c : UInt8) : Bool := 32 ≤ c.toNat && c.toNat ≤ 126 && !(c.toNat == 34) && !(c.toNat == 92)
/-- An octet, as it stands between quotation marks. -/
def code (c : UInt8) : List UInt8 :=
  if isPlain27 c then [c] else if c.toNat = 13 then [92, 114] else if c.toNat = 10 then [92, 110] else if c.toNat = 34 ∨ c.toNat = 92 then [92, c]
  else [92, 120, digC (c.toNat / 16), digC (c.toNat % 16)]
def quote27 (b : List UInt8) : List UInt8 := 34 :: (b.flatMap code ++ [34])

/-- The octet whose code a text begins with. -/
def octOf (l : List UInt8) : Option UInt8 := ((List.range 256).map UInt8.ofNat).find? fun c => (code c).isPrefixOf l

theorem code_ne (c : UInt8) : code c ≠ [] := by unfold code; split; simp; split; simp; split; simp; split <;> simp
theorem code_length (c : UInt8) : 1 ≤ (code c).length ∧ (code c).length ≤ 4 := by unfold code; split; simp; split; simp; split; simp; split <;> simp
/-- No code begins with another's. -/
theorem code_free : ((List.range 256).all fun c => (List.range 256).all fun d => c == d || !((code (UInt8.ofNat c)).isPrefixOf (code (UInt8.ofNat d)))) = true := by decide +kernel
theorem code_prefix {c d : UInt8} (h : code c <+: code d) : c = d := by
  have h1 := List.all_eq_true.1 code_free c.toNat (List.mem_range.2 c.toNat_lt)
  have h2 := List.all_eq_true.1 h1 d.toNat (List.mem_range.2 d.toNat_lt)
  simp only [UInt8.ofNat_toNat, Bool.or_eq_true, beq_iff_eq, Bool.not_eq_true'] at h2
  rcases h2 with h2 | h2
  · exact UInt8.toNat_inj.1 h2
  · rw [List.isPrefixOf_iff_prefix.2 h] at h2
    cases h2
theorem code_one {c d : UInt8} {l : List UInt8} (hc : code c <+: l) (hd : code d <+: l) : c = d := by
  rcases Nat.le_total (code c).length (code d).length with h | h
  · exact code_prefix (List.prefix_of_prefix_length_le hc hd h)
  · exact (code_prefix (List.prefix_of_prefix_length_le hd hc h)).symm
theorem mem_bytes (c : UInt8) : c ∈ (List.range 256).map UInt8.ofNat := List.mem_map.2 ⟨c.toNat, List.mem_range.2 c.toNat_lt, by simp⟩
theorem octOf_some {l : List UInt8} {c : UInt8} : octOf l = some c ↔ code c <+: l := by
  constructor
  · intro h
    exact List.isPrefixOf_iff_prefix.1 (List.find?_some (p := fun c => (code c).isPrefixOf l) h)
  · intro h
    cases hf : octOf l with
    | none =>
      have := List.find?_eq_none.1 hf c (mem_bytes c)
      rw [List.isPrefixOf_iff_prefix.2 h] at this
      simp at this
    | some d => rw [code_one (List.isPrefixOf_iff_prefix.1 (List.find?_some (p := fun c => (code c).isPrefixOf l) hf)) h]
theorem octOf_none {l : List UInt8} : octOf l = none ↔ ∀ c, ¬ code c <+: l := by
  constructor
  · intro h c hc
    rw [octOf_some.2 hc] at h; cases h
  · intro h
    cases hf : octOf l with
    | none => rfl
    | some d => exact absurd (octOf_some.1 hf) (h d)

/-- What octets between quotation marks say, from a place on: the octets, how long, the error. -/
def unq27 : Nat → List UInt8 → Nat → List UInt8 → List UInt8 × Int × Int
  | 0, _, _, _ => ([], 0, 10)
  | f + 1, acc, k, l =>
    match l with
    | [] => ([], 0, 10)
    | c :: _ =>
      if c = 34 then (acc, (k : Int) + 1, 0)
      else match octOf l with
        | none => ([], 0, 10)
        | some d => unq27 f (acc ++ [d]) (k + (code d).length) (l.drop (code d).length)
def unquote27 (l : List UInt8) : List UInt8 × Int × Int :=
  match l with
  | [] => ([], 0, 10)
  | c :: r => if c = 34 then unq27 (r.length + 1) [] 1 r else ([], 0, 10)

theorem unq27_more (f g : Nat) (acc : List UInt8) (k : Nat) (l : List UInt8) (hf : l.length < f) (hg : l.length < g) : unq27 f acc k l = unq27 g acc k l := by
  induction f generalizing g acc k l with
  | zero => omega
  | succ f ih =>
    cases g with
    | zero => omega
    | succ g =>
      unfold unq27
      cases l with
      | nil => rfl
      | cons c r =>
        simp only
        split
        · rfl
        · cases h : octOf (c :: r) with
          | none => rfl
          | some d =>
            have h1 := code_length d
            have h2 := (octOf_some.1 h).length_le
            simp only [List.length_cons] at hf hg h2
            exact ih g _ _ _ (by rw [List.length_drop, List.length_cons]; omega) (by rw [List.length_drop, List.length_cons]; omega)
/-- One step. -/
theorem unq27_step (acc : List UInt8) (k : Nat) (c : UInt8) (r : List UInt8) : unq27 (r.length + 2) acc k (c :: r) =
    if c = 34 then (acc, (k : Int) + 1, 0)
    else match octOf (c :: r) with
      | none => ([], 0, 10)
      | some d => unq27 (((c :: r).drop (code d).length).length + 1) (acc ++ [d]) (k + (code d).length) ((c :: r).drop (code d).length) := by
  conv => lhs; unfold unq27
  simp only
  split
  · rfl
  · cases h : octOf (c :: r) with
    | none => rfl
    | some d =>
      have h1 := code_length d
      have h2 := (octOf_some.1 h).length_le
      simp only [List.length_cons] at h2
      exact unq27_more _ _ _ _ _ (by rw [List.length_drop, List.length_cons]; omega) (Nat.lt_succ_self _)

theorem code_head (c : UInt8) : (code c).head? ≠ some 34 := by
  have := all_bytes (fun c => !((code c).head? == some 34)) (by decide +kernel) c
  intro h
  rw [h] at this
  simp at this
/-- What was quoted says itself, whatever stands behind. -/
theorem unq27_quote (b acc : List UInt8) (k : Nat) (s : List UInt8) : unq27 ((b.flatMap code ++ 34 :: s).length + 1) acc k (b.flatMap code ++ 34 :: s) = (acc ++ b, (k : Int) + (b.flatMap code).length + 1, 0) := by
  induction b generalizing acc k with
  | nil => unfold unq27; simp
  | cons d b ih =>
    have h0 := code_ne d
    obtain ⟨c, r, hcr⟩ : ∃ c r, code d = c :: r := List.exists_cons_of_ne_nil h0
    have hc : c ≠ 34 := by
      have := code_head d
      rw [hcr] at this
      simpa using this
    have hl : (d :: b).flatMap code ++ 34 :: s = c :: (r ++ (b.flatMap code ++ 34 :: s)) := by
      rw [List.flatMap_cons, hcr]; simp
    have ho : octOf (c :: (r ++ (b.flatMap code ++ 34 :: s))) = some d := by
      rw [octOf_some, hcr]
      exact ⟨b.flatMap code ++ 34 :: s, by simp⟩
    have hd : (c :: (r ++ (b.flatMap code ++ 34 :: s))).drop (code d).length = b.flatMap code ++ 34 :: s := by
      rw [hcr, ← List.cons_append, List.drop_left' rfl]
    rw [hl, List.length_cons, unq27_step, if_neg hc, ho]
    simp only [hd]
    rw [ih]
    simp only [List.flatMap_cons, List.length_append, List.append_assoc, List.singleton_append]
    congr 2
    omega
theorem unquote27_quote (b s : List UInt8) : unquote27 (quote27 b ++ s) = (b, ((quote27 b).length : Int), 0) := by
  have h := unq27_quote b [] 1 s
  unfold unquote27 quote27
  simp only [List.cons_append, List.append_assoc, if_true, List.nil_append]
  rw [h]
  simp
  omega

def escOf (b : UInt8) : UInt8 := if b = 114 then 13 else if b = 110 then 10 else if b = 34 ∨ b = 92 then b else 0
/-- The code's way to the octet: by the text's first octets, held against the code. -/
def octP (l : List UInt8) : Option UInt8 :=
  match l with
  | [] => none
  | a :: r =>
    if isPlain27 a then some a
    else if a ≠ 92 then none
    else match r with
      | [] => none
      | b :: t =>
        if b = 120 then
          (if l.length < 4 then none else if (numR 16 255 (t.take 2)).2 ≠ 0 then none else
            if code (UInt8.ofNat (numR 16 255 (t.take 2)).1.toNat) = l.take 4 then some (UInt8.ofNat (numR 16 255 (t.take 2)).1.toNat) else none)
        else
          if code (escOf b) = l.take 2 then some (escOf b) else none

theorem octP_sound {l : List UInt8} {c : UInt8} (h : octP l = some c) : code c <+: l := by
  unfold octP at h
  cases l with
  | nil => cases h
  | cons a r =>
    simp only at h
    split at h
    · rename_i hp
      injection h with h
      subst h
      unfold code
      rw [if_pos hp]
      exact ⟨r, rfl⟩
    · split at h
      · cases h
      · cases r with
        | nil => cases h
        | cons b t =>
          simp only at h
          split at h
          · split at h
            · cases h
            · split at h
              · cases h
              · split at h
                · rename_i he
                  injection h with h
                  rw [← h, he]
                  exact List.take_prefix _ _
                · cases h
          · split at h
            · rename_i he
              injection h with h
              rw [← h, he]
              exact List.take_prefix _ _
            · cases h
theorem hex_back (c : UInt8) : numR 16 255 [digC (c.toNat / 16), digC (c.toNat % 16)] = ((c.toNat : Int), 0) := by
  have := all_bytes (fun c => decide (numR 16 255 [digC (c.toNat / 16), digC (c.toNat % 16)] = ((c.toNat : Int), 0))) (by decide +kernel) c
  exact of_decide_eq_true this
theorem octP_complete {l : List UInt8} {c : UInt8} (h : code c <+: l) : octP l = some c := by
  obtain ⟨t, rfl⟩ := h
  by_cases h1 : isPlain27 c = true
  · have e : code c = [c] := by unfold code; rw [if_pos h1]
    rw [e]
    simp [octP, h1]
  · have n92 : isPlain27 92 = false := by decide
    by_cases h13 : c.toNat = 13
    · have ec : c = 13 := UInt8.toNat_inj.1 h13
      subst ec
      have e : code 13 = [92, 114] := by decide
      rw [e]
      simp [octP, n92, e, escOf]
    · by_cases h10 : c.toNat = 10
      · have ec : c = 10 := UInt8.toNat_inj.1 h10
        subst ec
        have e : code 10 = [92, 110] := by decide
        rw [e]
        simp [octP, n92, e, escOf]
      · by_cases h34 : c.toNat = 34 ∨ c.toNat = 92
        · rcases h34 with h34 | h34
          · have ec : c = 34 := UInt8.toNat_inj.1 h34
            subst ec
            have e : code 34 = [92, 34] := by decide
            rw [e]
            simp [octP, n92, e, escOf]
          · have ec : c = 92 := UInt8.toNat_inj.1 h34
            subst ec
            have e : code 92 = [92, 92] := by decide
            rw [e]
            simp [octP, n92, e, escOf]
        · have e : code c = [92, 120, digC (c.toNat / 16), digC (c.toNat % 16)] := by
            unfold code
            rw [if_neg h1, if_neg h13, if_neg h10, if_neg h34]
          rw [e]
          have hb := hex_back c
          simp [octP, n92, hb, e]
theorem octP_eq (l : List UInt8) : octP l = octOf l := by
  cases h : octOf l with
  | none =>
    cases h2 : octP l with
    | none => rfl
    | some c => exact absurd (octP_sound h2) (octOf_none.1 h c)
  | some c => exact octP_complete (octOf_some.1 h)
end IH
