/- Pm: several texts, one behind the other. -/

/- Layer 1 in plain Lean: octets, tokens, trimming, small letters. No program in sight; no condition. -/
namespace IH

/-- A letter or a digit. -/
def isLetter (c : UInt8) : Bool := (97 ≤ c.toNat && c.toNat ≤ 122) || (65 ≤ c.toNat && c.toNat ≤ 90) || (48 ≤ c.toNat && c.toNat ≤ 57)
def isPlain (c : UInt8) : Bool := (32 ≤ c.toNat && !(c.toNat == 127)) || c.toNat == 9
def allOf (p : UInt8 → Bool) (l : List UInt8) : Bool := l.all p
def marks : List UInt8 := [33, 35, 36, 37, 38, 39, 42, 43, 45, 46, 94, 95, 96, 124, 126]
def isMark (c : UInt8) : Bool := marks.contains c
def isTchar (c : UInt8) : Bool := isLetter c || isMark c
def isBlank (c : UInt8) : Bool := c.toNat == 32 || c.toNat == 9
def token (l : List UInt8) : Bool := !l.isEmpty && allOf isTchar l
def trimL (l : List UInt8) : List UInt8 := l.dropWhile isBlank
def trimR (l : List UInt8) : List UInt8 := (trimL l.reverse).reverse
def trim (l : List UInt8) : List UInt8 := trimL (trimR l)
def value (l : List UInt8) : Bool := allOf isPlain l && (trim l == l)
def lowerC (c : UInt8) : UInt8 := if 65 ≤ c.toNat && c.toNat ≤ 90 then c + 32 else c
def lower (l : List UInt8) : List UInt8 := l.map lowerC

theorem trimL_blank {c : UInt8} {l : List UInt8} (h : isBlank c = true) : trimL (c :: l) = trimL l := by simp [trimL, h]
theorem trimL_head {c : UInt8} {l : List UInt8} (h : isBlank c = false) : trimL (c :: l) = c :: l := by simp [trimL, h]
theorem trimL_nil : trimL [] = [] := rfl
theorem trimR_nil : trimR [] = [] := rfl
theorem trimR_blank {c : UInt8} {l : List UInt8} (h : isBlank c = true) : trimR (l ++ [c]) = trimR l := by
  simp [trimR, trimL_blank h]
theorem trimR_last {c : UInt8} {l : List UInt8} (h : isBlank c = false) : trimR (l ++ [c]) = l ++ [c] := by
  simp [trimR, trimL_head h]
theorem trimR_cons (c : UInt8) (l : List UInt8) : trimR (c :: l) = if trimR l = [] then (if isBlank c then [] else [c]) else c :: trimR l := by
  unfold trimR trimL
  simp only [List.reverse_cons, List.dropWhile_append, List.reverse_eq_nil_iff]
  by_cases h : List.dropWhile isBlank l.reverse = []
  · by_cases hb : isBlank c <;> simp [h, hb]
  · simp [h]
theorem trim_comm (l : List UInt8) : trimR (trimL l) = trimL (trimR l) := by
  induction l with
  | nil => rfl
  | cons c l ih =>
    by_cases hb : isBlank c
    · rw [trimL_blank hb, ih, trimR_cons]
      by_cases h : trimR l = []
      · simp [h, hb, trimL_nil]
      · simp [h, trimL_blank hb]
    · have hb' : isBlank c = false := by simpa using hb
      rw [trimL_head hb', trimR_cons]
      by_cases h : trimR l = []
      · simp [h, hb', trimL_head hb']
      · simp [h, trimL_head hb']
theorem dropWhile_length_le (p : UInt8 → Bool) (l : List UInt8) : (l.dropWhile p).length ≤ l.length := (List.dropWhile_suffix p).length_le
theorem trimL_length (l : List UInt8) : (trimL l).length ≤ l.length := dropWhile_length_le _ _
theorem trimR_length (l : List UInt8) : (trimR l).length ≤ l.length := by
  have := dropWhile_length_le isBlank l.reverse
  simp [trimR, trimL] at *; exact this
theorem trim_length (l : List UInt8) : (trim l).length ≤ l.length := Nat.le_trans (trimL_length _) (trimR_length _)

/-- A text is what is left of it trimmed, just if no blank stands at its ends. -/
theorem trim_eq_nil (l : List UInt8) : l = [] ∨ (∃ c m, l = c :: m) := by cases l <;> simp
theorem trim_self {l : List UInt8} : trim l = l ↔ (∀ c, l.head? = some c → isBlank c = false) ∧ (∀ c, l.getLast? = some c → isBlank c = false) := by
  constructor
  · intro h
    have hl : (trim l).length = l.length := by rw [h]
    constructor
    · intro c hc
      cases l with
      | nil => simp at hc
      | cons d m =>
        simp at hc; subst hc
        by_cases hb : isBlank d = false
        · exact hb
        · have hb' : isBlank d = true := by simpa using hb
          have e : trim (d :: m) = trim m := by unfold trim; rw [← trim_comm, ← trim_comm, trimL_blank hb']
          rw [e] at hl
          have := trim_length m
          simp at hl; omega
    · intro c hc
      rcases List.eq_nil_or_concat l with rfl | ⟨m, d, rfl⟩
      · simp at hc
      · rw [List.concat_eq_append] at *
        simp at hc; subst hc
        by_cases hb : isBlank d = false
        · exact hb
        · have hb' : isBlank d = true := by simpa using hb
          have e : trim (m ++ [d]) = trim m := by unfold trim; rw [trimR_blank hb']
          rw [e] at hl
          have := trim_length m
          simp at hl; omega
  · rintro ⟨h1, h2⟩
    unfold trim
    have e : trimR l = l := by
      rcases List.eq_nil_or_concat l with rfl | ⟨m, d, rfl⟩
      · rfl
      · rw [List.concat_eq_append] at *
        exact trimR_last (h2 d (by simp))
    rw [e]
    cases l with
    | nil => rfl
    | cons d m => exact trimL_head (h1 d (by simp))
end IH

/- Layer 1 in plain Lean: lists of texts, cut at commas outside of quotation marks; by the code's way and by the document's. No program in sight; no condition. -/
namespace IH

/-- Where the first comma stands outside of quotation marks; the length, if there is none. -/
def comma : Bool → Bool → List UInt8 → Nat
  | _, _, [] => 0
  | ins, skip, c :: r =>
    if c = 44 ∧ ins = false then 0
    else if skip then 1 + comma ins false r
    else if c = 34 then 1 + comma (!ins) false r
    else if c = 92 ∧ ins = true then 1 + comma ins true r
    else 1 + comma ins false r

def emit (x : List UInt8) : List (List UInt8) := if trim x = [] then [] else [trim x]
def splitF : Nat → List UInt8 → List (List UInt8)
  | 0, _ => []
  | f + 1, l => if l = [] then [] else emit (l.take (comma false false l)) ++ splitF f (l.drop (comma false false l + 1))
def split1 (l : List UInt8) : List (List UInt8) := splitF l.length l
def splitL (L : List (List UInt8)) : List (List UInt8) := L.flatMap split1

theorem comma_le (ins skip : Bool) (l : List UInt8) : comma ins skip l ≤ l.length := by
  induction l generalizing ins skip with
  | nil => simp [comma]
  | cons c r ih =>
    unfold comma
    split
    · simp
    · split
      · have := ih ins false; simp; omega
      · split
        · have := ih (!ins) false; simp; omega
        · split
          · have := ih ins true; simp; omega
          · have := ih ins false; simp; omega

theorem emit_length (x : List UInt8) : (emit x).length ≤ x.length := by
  unfold emit
  split
  · simp
  · rename_i h
    have h1 := trim_length x
    have : (trim x).length ≠ 0 := by simpa using h
    simp; omega

theorem splitF_length (f : Nat) (l : List UInt8) : (splitF f l).length ≤ l.length := by
  induction f generalizing l with
  | zero => simp [splitF]
  | succ f ih =>
    unfold splitF
    split
    · simp
    · have h1 := ih (l.drop (comma false false l + 1))
      have h2 := emit_length (l.take (comma false false l))
      have h3 := comma_le false false l
      simp only [List.length_append, List.length_drop, List.length_take] at *
      omega

theorem splitF_more (f g : Nat) (l : List UInt8) (h : l.length ≤ f) (h' : l.length ≤ g) : splitF f l = splitF g l := by
  induction f generalizing g l with
  | zero =>
    have : l = [] := List.eq_nil_of_length_eq_zero (by omega)
    subst this
    cases g <;> simp [splitF]
  | succ f ih =>
    cases g with
    | zero =>
      have : l = [] := List.eq_nil_of_length_eq_zero (by omega)
      subst this
      simp [splitF]
    | succ g =>
      unfold splitF
      split
      · rfl
      · rename_i hl
        have h0 : 0 < l.length := List.length_pos_iff.2 hl
        rw [ih g (l.drop (comma false false l + 1)) (by rw [List.length_drop]; omega) (by rw [List.length_drop]; omega)]

theorem split1_step (l : List UInt8) (h : l ≠ []) : split1 l = emit (l.take (comma false false l)) ++ split1 (l.drop (comma false false l + 1)) := by
  have h0 : 0 < l.length := List.length_pos_iff.2 h
  unfold split1
  rw [splitF_more l.length (l.length - 1 + 1) l (by omega) (by omega)]
  conv => lhs; unfold splitF
  rw [if_neg h, splitF_more (l.length - 1) (l.drop (comma false false l + 1)).length _ (by rw [List.length_drop]; omega) (Nat.le_refl _)]
theorem split1_nil : split1 [] = [] := rfl
theorem split1_length (l : List UInt8) : (split1 l).length ≤ l.length := splitF_length _ _
theorem splitL_length (L : List (List UInt8)) : (splitL L).length ≤ (L.map List.length).sum := by
  induction L with
  | nil => simp [splitL]
  | cons l L ih =>
    have := split1_length l
    simp only [splitL, List.flatMap_cons, List.length_append, List.map_cons, List.sum_cons] at *
    omega

/-- The document's way: octet by octet. cur: what stands since the last cut. -/
def walk : List UInt8 → Bool → Bool → List UInt8 → List (List UInt8)
  | cur, _, _, [] => emit cur
  | cur, ins, skip, c :: r =>
    if c = 44 ∧ ins = false then emit cur ++ walk [] ins skip r
    else if skip then walk (cur ++ [c]) ins false r
    else walk (cur ++ [c]) (if c = 34 then !ins else ins) (decide (c = 92) && (if c = 34 then !ins else ins)) r

theorem walk_cons (cur : List UInt8) (ins skip : Bool) (c : UInt8) (r : List UInt8) : walk cur ins skip (c :: r) =
    if c = 44 ∧ ins = false then emit cur ++ walk [] ins skip r
    else if skip then walk (cur ++ [c]) ins false r
    else walk (cur ++ [c]) (if c = 34 then !ins else ins) (decide (c = 92) && (if c = 34 then !ins else ins)) r := rfl
theorem comma_cons (ins skip : Bool) (c : UInt8) (r : List UInt8) : comma ins skip (c :: r) =
    if c = 44 ∧ ins = false then 0
    else if skip then 1 + comma ins false r
    else if c = 34 then 1 + comma (!ins) false r
    else if c = 92 ∧ ins = true then 1 + comma ins true r
    else 1 + comma ins false r := rfl

theorem walk_comma (cur : List UInt8) (ins skip : Bool) (l : List UInt8) (h : skip = true → ins = true) :
    walk cur ins skip l = emit (cur ++ l.take (comma ins skip l)) ++ (if comma ins skip l < l.length then walk [] false false (l.drop (comma ins skip l + 1)) else []) := by
  induction l generalizing cur ins skip with
  | nil => simp [walk, comma]
  | cons c r ih =>
    rw [walk_cons, comma_cons]
    by_cases h1 : c = 44 ∧ ins = false
    · have hs : skip = false := by
        cases skip
        · rfl
        · have := h rfl; rw [this] at h1; simp at h1
      obtain ⟨rfl, rfl⟩ := h1
      subst hs
      simp
    · rw [if_neg h1, if_neg h1]
      by_cases h2 : skip = true
      · subst h2
        rw [if_pos rfl, if_pos rfl, ih _ _ _ (by simp)]
        rw [Nat.add_comm 1]
        simp
      · rw [if_neg h2, if_neg h2]
        by_cases h3 : c = 34
        · subst h3
          rw [ih _ _ _ (by simp)]
          simp [Nat.add_comm 1]
        · by_cases h4 : c = 92 ∧ ins = true
          · obtain ⟨rfl, rfl⟩ := h4
            rw [ih _ _ _ (by simp)]
            simp [Nat.add_comm 1]
          · have h5 : (decide (c = 92) && ins) = false := by
              cases ins <;> simp at *; exact h4
            simp only [h3, if_false, h4, h5]
            rw [ih _ _ _ (by simp)]
            simp [Nat.add_comm 1]

theorem walk_split (l : List UInt8) : walk [] false false l = split1 l := by
  generalize hn : l.length = n
  induction n using Nat.strongRecOn generalizing l with
  | _ n ih =>
    rw [walk_comma _ _ _ _ (by simp)]
    by_cases h : l = []
    · subst h; simp [comma, split1_nil, emit, trim, trimL, trimR]
    · have h0 : 0 < l.length := List.length_pos_iff.2 h
      rw [split1_step l h, List.nil_append]
      split
      · rw [ih _ (by rw [List.length_drop]; omega) _ rfl]
      · rw [List.drop_eq_nil_of_le (by omega), split1_nil]

end IH

/- Layer 1 in plain Lean: digits and numbers. No program in sight; no condition. -/
namespace IH

theorem all_bytes (p : UInt8 → Bool) (h : (List.range 256).all (fun n => p (UInt8.ofNat n)) = true) (c : UInt8) : p c = true := by
  have := List.all_eq_true.1 h c.toNat (List.mem_range.2 c.toNat_lt)
  simpa using this

def dig (c : UInt8) : Nat := if 48 ≤ c.toNat && c.toNat ≤ 57 then c.toNat - 48 else if 97 ≤ c.toNat && c.toNat ≤ 102 then c.toNat - 87 else if 65 ≤ c.toNat && c.toNat ≤ 70 then c.toNat - 55 else 99
def badDig (base : Nat) (l : List UInt8) : Bool := l.any fun c => decide (base ≤ dig c)
def accN (base : Nat) (most : Int) : Int → List UInt8 → Option Int
  | n, [] => some n
  | n, c :: r => if (dig c : Int) > most ∨ n > (most - dig c) / base then none else accN base most (n * base + dig c) r
def accR : Option Int → Int × Int
  | none => (0, 12)
  | some n => (n, 0)
def numR (base : Nat) (most : Int) (l : List UInt8) : Int × Int :=
  if l = [] then (0, 10) else if badDig base l then (0, 10) else if most < 0 then (0, 12) else accR (accN base most 0 l)

def digitsL : List UInt8 := [48, 49, 50, 51, 52, 53, 54, 55, 56, 57, 97, 98, 99, 100, 101, 102]
/-- Where an octet, in small letters, stands among the digits to a base; -1: nowhere. -/
def digIx (base : Nat) (c : UInt8) : Int := if dig c < base then (dig c : Int) else -1

theorem accN_snoc (base : Nat) (most n : Int) (l : List UInt8) (c : UInt8) : accN base most n (l ++ [c]) =
    match accN base most n l with
    | none => none
    | some m => if (dig c : Int) > most ∨ m > (most - dig c) / base then none else some (m * base + dig c) := by
  induction l generalizing n with
  | nil => simp [accN]
  | cons d l ih =>
    simp only [List.cons_append, accN]
    split
    · rfl
    · exact ih _
theorem accN_bound (base : Nat) (hb : 0 < base) (most n m : Int) (l : List UInt8) (h : accN base most n l = some m) (h0 : 0 ≤ n) (h1 : n ≤ most) : 0 ≤ m ∧ m ≤ most := by
  induction l generalizing n with
  | nil => simp [accN] at h; omega
  | cons d l ih =>
    simp only [accN] at h
    split at h
    · cases h
    · rename_i hc
      have hc1 : (dig d : Int) ≤ most := by omega
      have hc2 : n ≤ (most - dig d) / base := by omega
      have hp : (0 : Int) < base := by omega
      have h3 : n * base ≤ most - dig d := by
        have := Int.le_ediv_iff_mul_le hp |>.1 hc2
        exact this
      have h4 : 0 ≤ n * (base : Int) := Int.mul_nonneg h0 (by omega)
      exact ih _ h (by omega) (by omega)
theorem accN_none_more (base : Nat) (most n : Int) (a b : List UInt8) (h : accN base most n a = none) : accN base most n (a ++ b) = none := by
  induction a generalizing n with
  | nil => simp [accN] at h
  | cons d a ih =>
    simp only [List.cons_append, accN] at *
    split
    · rfl
    · rename_i hc
      rw [if_neg hc] at h
      exact ih _ h
theorem badDig_append (base : Nat) (a b : List UInt8) : badDig base (a ++ b) = (badDig base a || badDig base b) := by simp [badDig]

/-- A number's digits. -/
def digC (d : Nat) : UInt8 := if d < 10 then UInt8.ofNat (48 + d) else UInt8.ofNat (87 + d)
def digs (base : Nat) : Nat → Nat → List UInt8
  | 0, _ => []
  | f + 1, n => if n < base then [digC n] else digs base f (n / base) ++ [digC (n % base)]
def baseOf (b : Int) : Nat := if b = 16 then 16 else 10
def printN (n : Int) (base : Int) : List UInt8 := digs (baseOf base) 64 n.toNat

theorem digs_more (base : Nat) (hb : 2 ≤ base) (f g n : Nat) (hf : n < 2 ^ f) (hg : n < 2 ^ g) (hf0 : 0 < f) (hg0 : 0 < g) : digs base f n = digs base g n := by
  induction f generalizing g n with
  | zero => omega
  | succ f ih =>
    cases g with
    | zero => omega
    | succ g =>
      unfold digs
      split
      · rfl
      · rename_i h
        have h1 : n / base ≤ n / 2 := Nat.div_le_div_left hb (by omega)
        have h2 : n / 2 < 2 ^ f := by rw [Nat.pow_succ] at hf; omega
        have h3 : n / 2 < 2 ^ g := by rw [Nat.pow_succ] at hg; omega
        have h4 : 0 < n / base := Nat.div_pos (by omega) (by omega)
        have hf1 : 0 < f := by
          rcases Nat.eq_zero_or_pos f with h | h
          · subst h; simp at h2; omega
          · exact h
        have hg1 : 0 < g := by
          rcases Nat.eq_zero_or_pos g with h | h
          · subst h; simp at h3; omega
          · exact h
        rw [ih g (n / base) (by omega) (by omega) hf1 hg1]
theorem digs_step (base : Nat) (hb : 2 ≤ base) (n : Nat) (hn : n < 2 ^ 63) (h : base ≤ n) : digs base 64 n = digs base 64 (n / base) ++ [digC (n % base)] := by
  conv => lhs; unfold digs
  rw [if_neg (by omega)]
  have h1 : n / base ≤ n / 2 := Nat.div_le_div_left hb (by omega)
  rw [digs_more base hb 63 64 (n / base) (by omega) (by omega) (by omega) (by omega)]
theorem digs_small (base n : Nat) (h : n < base) : digs base 64 n = [digC n] := by unfold digs; rw [if_pos h]
theorem digs_ne (base f n : Nat) (hf : 0 < f) : digs base f n ≠ [] := by
  cases f with
  | zero => omega
  | succ f => unfold digs; split <;> simp
theorem digs_length (base : Nat) (f n : Nat) : (digs base f n).length ≤ f := by
  induction f generalizing n with
  | zero => simp [digs]
  | succ f ih =>
    unfold digs
    split
    · simp
    · have := ih (n / base); simp; omega

theorem dig_digC (d : Nat) (h : d < 16) : dig (digC d) = d := by
  have : ∀ d, d < 16 → dig (digC d) = d := by decide
  exact this d h
theorem badDig_digs (base : Nat) (hb : 2 ≤ base) (hb' : base ≤ 16) (f n : Nat) : badDig base (digs base f n) = false := by
  have one : ∀ d, d < base → badDig base [digC d] = false := by
    intro d hd
    simp [badDig, dig_digC d (by omega)]; exact hd
  induction f generalizing n with
  | zero => rfl
  | succ f ih =>
    unfold digs
    split
    · rename_i h; exact one n h
    · rw [badDig_append, ih, one _ (Nat.mod_lt _ (by omega))]; rfl
theorem accN_digs (base : Nat) (hb : 2 ≤ base) (hb' : base ≤ 16) (most : Int) (f n : Nat) (hf : n < 2 ^ f) (hm : (n : Int) ≤ most) (hf0 : 0 < f) : accN base most 0 (digs base f n) = some (n : Int) := by
  have hp : (0 : Int) < base := by omega
  induction f generalizing n with
  | zero => omega
  | succ f ih =>
    unfold digs
    split
    · rename_i h
      simp only [accN, dig_digC n (by omega)]
      have : (0 : Int) ≤ (most - n) / base := Int.ediv_nonneg (by omega) (by omega)
      rw [if_neg (by omega)]
      simp
    · rename_i h
      have h1 : n / base ≤ n / 2 := Nat.div_le_div_left hb (by omega)
      have h2 : n / 2 < 2 ^ f := by rw [Nat.pow_succ] at hf; omega
      have h4 : 0 < n / base := Nat.div_pos (by omega) (by omega)
      have hf1 : 0 < f := by
        rcases Nat.eq_zero_or_pos f with h | h
        · subst h; simp at h2; omega
        · exact h
      have hmod : n % base < base := Nat.mod_lt _ (by omega)
      have hdm := Nat.div_add_mod n base
      have hle : n / base ≤ n := Nat.div_le_self _ _
      rw [accN_snoc, ih (n / base) (by omega) (by omega) hf1]
      simp only [dig_digC (n % base) (by omega)]
      have h5 : ((n / base : Nat) : Int) ≤ (most - (n % base : Nat)) / base := by
        rw [Int.le_ediv_iff_mul_le hp]
        have : ((n / base : Nat) : Int) * (base : Int) + ((n % base : Nat) : Int) = n := by
          have : (n / base) * base + n % base = n := by rw [Nat.mul_comm]; exact hdm
          omega
        omega
      have h6 : ((n % base : Nat) : Int) ≤ most := by have := Nat.mod_le n base; omega
      rw [if_neg (by omega)]
      congr 1
      have : (n / base) * base + n % base = n := by rw [Nat.mul_comm]; exact hdm
      omega

/-- A number's own digits say it. -/
theorem numR_print (base : Nat) (hb : base = 10 ∨ base = 16) (n : Nat) (hn : n < 2 ^ 63) : numR base 9223372036854775807 (digs base 64 n) = ((n : Int), 0) := by
  have h1 := digs_ne base 64 n (by omega)
  have h2 := badDig_digs base (by omega) (by omega) 64 n
  have h3 := accN_digs base (by omega) (by omega) 9223372036854775807 64 n (by omega) (by omega) (by omega)
  unfold numR
  rw [if_neg h1, h2, h3]
  simp [accR]
end IH

/- Layer 1 in plain Lean: quoted texts. No program in sight; no condition. -/
namespace IH

/-- What a quoted text says from a place on, how long it is, the error's number. -/
def unqF : List UInt8 → Nat → List UInt8 → List UInt8 × Int × Int
  | _, _, [] => ([], 0, 10)
  | acc, k, c :: r =>
    if c = 34 then (acc, (k : Int) + 1, 0)
    else if c = 92 then
      match r with
      | [] => ([], 0, 10)
      | d :: r' => if isPlain d then unqF (acc ++ [d]) (k + 2) r' else ([], 0, 10)
    else if isPlain c then unqF (acc ++ [c]) (k + 1) r else ([], 0, 10)
def unquote (l : List UInt8) : List UInt8 × Int × Int :=
  match l with
  | [] => ([], 0, 10)
  | c :: r => if c = 34 then unqF [] 1 r else ([], 0, 10)

theorem unqF_nil (acc : List UInt8) (k : Nat) : unqF acc k [] = ([], 0, 10) := by unfold unqF; rfl
theorem unqF_end (acc : List UInt8) (k : Nat) (r : List UInt8) : unqF acc k (34 :: r) = (acc, (k : Int) + 1, 0) := by unfold unqF; simp
theorem unqF_esc_nil (acc : List UInt8) (k : Nat) : unqF acc k [92] = ([], 0, 10) := by unfold unqF; simp
theorem unqF_esc (acc : List UInt8) (k : Nat) (d : UInt8) (r : List UInt8) : unqF acc k (92 :: d :: r) = if isPlain d then unqF (acc ++ [d]) (k + 2) r else ([], 0, 10) := by
  conv => lhs; unfold unqF
  simp
theorem unqF_plain (acc : List UInt8) (k : Nat) (c : UInt8) (r : List UInt8) (h1 : c ≠ 34) (h2 : c ≠ 92) : unqF acc k (c :: r) = if isPlain c then unqF (acc ++ [c]) (k + 1) r else ([], 0, 10) := by
  conv => lhs; unfold unqF
  simp [h1, h2]
end IH

/- Layer 1 in plain Lean: what is trimmed stays so, small letters, tokens are values. No program in sight; no condition. -/
namespace IH

theorem trimL_idem (l : List UInt8) : trimL (trimL l) = trimL l := by
  induction l with
  | nil => rfl
  | cons c l ih =>
    by_cases h : isBlank c = true
    · rw [trimL_blank h, ih]
    · have h' : isBlank c = false := by simpa using h
      rw [trimL_head h', trimL_head h']
theorem trimR_idem (l : List UInt8) : trimR (trimR l) = trimR l := by
  unfold trimR
  rw [List.reverse_reverse, trimL_idem]
theorem trim_idem (l : List UInt8) : trim (trim l) = trim l := by
  unfold trim
  rw [trim_comm, trimL_idem, trimR_idem]
theorem trimL_allBlank {b : List UInt8} (h : ∀ c ∈ b, isBlank c = true) (l : List UInt8) : trimL (b ++ l) = trimL l := by
  induction b with
  | nil => rfl
  | cons c b ih =>
    rw [List.cons_append, trimL_blank (h c (by simp)), ih fun x hx => h x (by simp [hx])]
theorem trimR_allBlank {b : List UInt8} (h : ∀ c ∈ b, isBlank c = true) (l : List UInt8) : trimR (l ++ b) = trimR l := by
  unfold trimR
  rw [List.reverse_append, trimL_allBlank fun c hc => h c (List.mem_reverse.1 hc)]
theorem trimL_nil_all {b : List UInt8} (h : trimL b = []) : ∀ c ∈ b, isBlank c = true := by
  induction b with
  | nil => simp
  | cons c b ih =>
    by_cases hc : isBlank c = true
    · rw [trimL_blank hc] at h
      intro x hx
      rcases List.mem_cons.1 hx with rfl | hx
      · exact hc
      · exact ih h x hx
    · have h' : isBlank c = false := by simpa using hc
      rw [trimL_head h'] at h
      cases h
theorem trim_nil_all {b : List UInt8} (h : trim b = []) : ∀ c ∈ b, isBlank c = true := by
  unfold trim at h
  have h1 := trimL_nil_all h
  have h2 : trimR b = [] := by
    rcases List.eq_nil_or_concat (trimR b) with h | ⟨m, d, h3⟩
    · exact h
    · exfalso
      rw [List.concat_eq_append] at h3
      have h4 := trimR_idem b
      rw [h3] at h4
      have h5 := h1 d (by rw [h3]; simp)
      rw [trimR_blank h5] at h4
      have h6 := congrArg List.length h4
      have h7 := trimR_length m
      simp at h6
      omega
  unfold trimR at h2
  intro c hc
  exact trimL_nil_all (List.reverse_eq_nil_iff.1 h2) c (List.mem_reverse.2 hc)
theorem trim_around {b : List UInt8} (h : trim b = []) (l : List UInt8) : trim (b ++ l ++ b) = trim l := by
  have hb := trim_nil_all h
  unfold trim
  rw [trimR_allBlank hb, ← trim_comm, trimL_allBlank hb, trim_comm]
theorem lowerC_idem (c : UInt8) : lowerC (lowerC c) = lowerC c := by
  have := all_bytes (fun c => lowerC (lowerC c) == lowerC c) (by decide +kernel) c
  exact eq_of_beq this
theorem lower_idem (l : List UInt8) : lower (lower l) = lower l := by
  unfold lower
  rw [List.map_map]
  apply List.map_congr_left
  intro c _
  exact lowerC_idem c
theorem lower_length (l : List UInt8) : (lower l).length = l.length := by simp [lower]
theorem tchar_plain (c : UInt8) (h : isTchar c = true) : isPlain c = true ∧ isBlank c = false ∧ isTchar (lowerC c) = true := by
  have := all_bytes (fun c => !isTchar c || (isPlain c && !isBlank c && isTchar (lowerC c))) (by decide +kernel) c
  simp [h] at this
  exact ⟨this.1.1, this.1.2, this.2⟩
theorem token_value (l : List UInt8) (h : token l = true) : value l = true ∧ token (lower l) = true := by
  simp only [token, Bool.and_eq_true, Bool.not_eq_true', allOf, List.all_eq_true, List.isEmpty_eq_false_iff] at h
  obtain ⟨h0, h1⟩ := h
  constructor
  · simp only [value, Bool.and_eq_true, allOf, List.all_eq_true, beq_iff_eq]
    refine ⟨fun c hc => (tchar_plain c (h1 c hc)).1, trim_self.2 ⟨fun c hc => ?_, fun c hc => ?_⟩⟩
    · exact (tchar_plain c (h1 c (List.mem_of_head? hc))).2.1
    · exact (tchar_plain c (h1 c (List.mem_of_getLast? hc))).2.1
  · simp only [token, Bool.and_eq_true, Bool.not_eq_true', allOf, List.all_eq_true, List.isEmpty_eq_false_iff]
    refine ⟨by simpa [lower] using h0, fun c hc => ?_⟩
    obtain ⟨d, hd, rfl⟩ := List.mem_map.1 hc
    exact (tchar_plain d (h1 d hd)).2.2
end IH

/- Layer 2 in plain Lean: the calendar. No program in sight; no condition. -/
namespace IH

def leapB (y : Int) : Bool := y % 4 == 0 && (!(y % 100 == 0) || y % 400 == 0)
def leapN (y : Int) : Int := if y % 4 = 0 ∧ (¬ y % 100 = 0 ∨ y % 400 = 0) then 1 else 0
/-- How many days lie ahead of a year, from 1970 on. -/
def dby (y : Int) : Int := 365 * (y - 1970) + (y - 1) / 4 - 492 - ((y - 1) / 100 - 19) + (y - 1) / 400 - 4
def mlen (y m : Int) : Int := if m = 2 then 28 + leapN y else if m = 4 ∨ m = 6 ∨ m = 9 ∨ m = 11 then 30 else 31
/-- How many days of a year lie ahead of a month. -/
def cum (y m : Int) : Int :=
  if m ≤ 1 then 0 else if m = 2 then 31 else if m = 3 then 59 + leapN y else if m = 4 then 90 + leapN y else if m = 5 then 120 + leapN y else if m = 6 then 151 + leapN y
  else if m = 7 then 181 + leapN y else if m = 8 then 212 + leapN y else if m = 9 then 243 + leapN y else if m = 10 then 273 + leapN y else if m = 11 then 304 + leapN y else if m = 12 then 334 + leapN y else 365 + leapN y

theorem leapB_iff (y : Int) : leapB y = true ↔ leapN y = 1 := by
  unfold leapB leapN
  by_cases h1 : y % 4 = 0 <;> by_cases h2 : y % 100 = 0 <;> by_cases h3 : y % 400 = 0 <;> simp [h1, h2, h3]
theorem leapN_01 (y : Int) : leapN y = 0 ∨ leapN y = 1 := by unfold leapN; split <;> simp
theorem leapB_val (y : Int) : leapN y = if leapB y = true then 1 else 0 := by
  have h := leapB_iff y
  have h2 := leapN_01 y
  split
  · rename_i hb; exact h.1 hb
  · rename_i hb; rcases h2 with h2 | h2
    · exact h2
    · exact absurd (h.2 h2) hb
theorem dby_succ (y : Int) : dby (y + 1) = dby y + 365 + leapN y := by
  unfold dby leapN
  split <;> omega
theorem dby_400 (y : Int) : dby (y + 400) = dby y + 146097 := by unfold dby; omega
theorem dby_mono (a b : Int) (h : a ≤ b) : dby a ≤ dby b := by unfold dby; omega
theorem dby_1970 : dby 1970 = 0 := by decide
theorem leapN_400 (y : Int) : leapN (y + 400) = leapN y := by
  have h1 : (y + 400) % 4 = y % 4 := by omega
  have h2 : (y + 400) % 100 = y % 100 := by omega
  have h3 : (y + 400) % 400 = y % 400 := by omega
  unfold leapN
  rw [h1, h2, h3]
theorem mlen_bd (y m : Int) : 28 ≤ mlen y m ∧ mlen y m ≤ 31 := by
  have := leapN_01 y
  unfold mlen
  split
  · omega
  · split <;> omega
theorem cum_succ (y m : Int) (h1 : 1 ≤ m) (h2 : m ≤ 12) : cum y (m + 1) = cum y m + mlen y m := by
  have hm : m = 1 ∨ m = 2 ∨ m = 3 ∨ m = 4 ∨ m = 5 ∨ m = 6 ∨ m = 7 ∨ m = 8 ∨ m = 9 ∨ m = 10 ∨ m = 11 ∨ m = 12 := by omega
  rcases hm with rfl | rfl | rfl | rfl | rfl | rfl | rfl | rfl | rfl | rfl | rfl | rfl <;> simp [cum, mlen] <;> omega
theorem cum_bd (y m : Int) : 0 ≤ cum y m ∧ cum y m ≤ 365 + leapN y := by
  have hl := leapN_01 y
  have hm : m ≤ 1 ∨ m = 2 ∨ m = 3 ∨ m = 4 ∨ m = 5 ∨ m = 6 ∨ m = 7 ∨ m = 8 ∨ m = 9 ∨ m = 10 ∨ m = 11 ∨ m = 12 ∨ 13 ≤ m := by omega
  rcases hm with h | rfl | rfl | rfl | rfl | rfl | rfl | rfl | rfl | rfl | rfl | rfl | h
  · unfold cum; rw [if_pos h]; omega
  all_goals first
    | (simp [cum]; omega)
    | (unfold cum; rw [if_neg (by omega), if_neg (by omega), if_neg (by omega), if_neg (by omega), if_neg (by omega), if_neg (by omega), if_neg (by omega), if_neg (by omega), if_neg (by omega), if_neg (by omega), if_neg (by omega), if_neg (by omega)]; omega)
theorem cum_mono (y a b : Int) (h0 : 1 ≤ a) (h : a ≤ b) (h1 : b ≤ 13) : cum y a ≤ cum y b := by
  obtain ⟨k, hk⟩ : ∃ k : Nat, b = a + k := ⟨(b - a).toNat, by omega⟩
  subst hk
  induction k with
  | zero => simp
  | succ k ih =>
    have e : a + ((k + 1 : Nat) : Int) = (a + k) + 1 := by omega
    rw [e, cum_succ y (a + k) (by omega) (by omega)]
    have := ih (by omega) (by omega)
    have := mlen_bd y (a + k)
    omega
theorem cum_13 (y : Int) : cum y 13 = 365 + leapN y := by simp [cum]
theorem cum_1 (y : Int) : cum y 1 = 0 := by simp [cum]

/-- The n-th day from 1970 on is the date y, m, d. -/
structure Civ (n y m d : Int) : Prop where
  hm1 : 1 ≤ m
  hm2 : m ≤ 12
  hd1 : 1 ≤ d
  hd2 : d ≤ mlen y m
  hn : n = dby y + cum y m + d - 1

theorem Civ.year {n y m d : Int} (h : Civ n y m d) : dby y ≤ n ∧ n < dby (y + 1) := by
  obtain ⟨h1, h2, h3, h4, h5⟩ := h
  have a := cum_bd y m
  have b := cum_succ y m h1 h2
  have c := cum_mono y (m + 1) 13 (by omega) (by omega) (by omega)
  have e := cum_13 y
  have f := dby_succ y
  omega
theorem Civ.uniq {n y m d y' m' d' : Int} (h : Civ n y m d) (h' : Civ n y' m' d') : y = y' ∧ m = m' ∧ d = d' := by
  have a := h.year
  have a' := h'.year
  have hy : y = y' := by
    rcases Int.lt_trichotomy y y' with hl | he | hg
    · have := dby_mono (y + 1) y' (by omega); omega
    · exact he
    · have := dby_mono (y' + 1) y (by omega); omega
  subst hy
  obtain ⟨h1, h2, h3, h4, h5⟩ := h
  obtain ⟨h1', h2', h3', h4', h5'⟩ := h'
  have hm : m = m' := by
    rcases Int.lt_trichotomy m m' with hl | he | hg
    · have b := cum_succ y m h1 h2
      have c := cum_mono y (m + 1) m' (by omega) (by omega) (by omega)
      omega
    · exact he
    · have b := cum_succ y m' h1' h2'
      have c := cum_mono y (m' + 1) m (by omega) (by omega) (by omega)
      omega
  subst hm
  exact ⟨rfl, rfl, by omega⟩

/-- The date of a day: whichever it is. -/
noncomputable def civOf (n : Int) : Int × Int × Int := Classical.epsilon fun p => Civ n p.1 p.2.1 p.2.2
theorem Civ.civOf {n y m d : Int} (h : Civ n y m d) : IH.civOf n = (y, m, d) := by
  have hs : Civ n (IH.civOf n).1 (IH.civOf n).2.1 (IH.civOf n).2.2 := Classical.epsilon_spec (p := fun p : Int × Int × Int => Civ n p.1 p.2.1 p.2.2) ⟨(y, m, d), h⟩
  obtain ⟨a, b, c⟩ := hs.uniq h
  rw [Prod.ext_iff, Prod.ext_iff]
  exact ⟨a, b, c⟩

/-- A day is followed by the calendar's next. -/
theorem Civ.next {n y m d u v w : Int} (h : Civ n y m d) (h' : Civ (n + 1) u v w) : (u = y ∧ v = m ∧ w = d + 1) ∨ (w = 1 ∧ ((u = y ∧ v = m + 1) ∨ (u = y + 1 ∧ v = 1 ∧ m = 12))) := by
  have h0 := h
  obtain ⟨h1, h2, h3, h4, h5⟩ := h
  have l1 := leapN_01 (y + 1)
  by_cases hd : d + 1 ≤ mlen y m
  · have := h'.uniq (y' := y) (m' := m) (d' := d + 1) ⟨h1, h2, by omega, hd, by omega⟩
    exact .inl this
  · by_cases hm : m + 1 ≤ 12
    · have b := cum_succ y m h1 h2
      have := h'.uniq (y' := y) (m' := m + 1) (d' := 1) ⟨by omega, hm, by omega, by have := mlen_bd y (m + 1); omega, by omega⟩
      exact .inr ⟨this.2.2, .inl ⟨this.1, this.2.1⟩⟩
    · obtain rfl : m = 12 := by omega
      have b := cum_succ y 12 h1 h2
      rw [show (12 : Int) + 1 = 13 from rfl] at b
      have c := cum_13 y
      have e := dby_succ y
      have f := cum_1 (y + 1)
      have := h'.uniq (y' := y + 1) (m' := 1) (d' := 1) ⟨by omega, by omega, by omega, by have := mlen_bd (y + 1) 1; omega, by rw [f]; omega⟩
      exact .inr ⟨this.2.2, .inr ⟨this.1, this.2.1, rfl⟩⟩

/-- Days of the week, from Thursday on. -/
def dayN (i : Int) : List UInt8 := if i = 0 then [84, 104, 117, 114, 115, 100, 97, 121] else if i = 1 then [70, 114, 105, 100, 97, 121] else if i = 2 then [83, 97, 116, 117, 114, 100, 97, 121] else if i = 3 then [83, 117, 110, 100, 97, 121] else if i = 4 then [77, 111, 110, 100, 97, 121] else if i = 5 then [84, 117, 101, 115, 100, 97, 121] else [87, 101, 100, 110, 101, 115, 100, 97, 121]
/-- Months, from 1 on. -/
def monN (i : Int) : List UInt8 := if i = 1 then [74, 97, 110] else if i = 2 then [70, 101, 98] else if i = 3 then [77, 97, 114] else if i = 4 then [65, 112, 114] else if i = 5 then [77, 97, 121] else if i = 6 then [74, 117, 110] else if i = 7 then [74, 117, 108] else if i = 8 then [65, 117, 103] else if i = 9 then [83, 101, 112] else if i = 10 then [79, 99, 116] else if i = 11 then [78, 111, 118] else [68, 101, 99]
def dg (n : Int) : UInt8 := digC (n % 10).toNat
def d2 (n : Int) : List UInt8 := [dg (n / 10), dg n]
def d4 (n : Int) : List UInt8 := [dg (n / 1000), dg (n / 100), dg (n / 10), dg n]
def clockL (s : Int) : List UInt8 := d2 (s / 3600) ++ [58] ++ d2 (s / 60 % 60) ++ [58] ++ d2 (s % 60)
def gmt : List UInt8 := [32, 71, 77, 84]
def short2 (d : Int) : List UInt8 := if d < 10 then [32, dg d] else d2 d
/-- The three forms of a date, a day of the week (from Thursday on), a time of day. -/
def form0 (y m d w s : Int) : List UInt8 := (dayN w).take 3 ++ [44, 32] ++ d2 d ++ [32] ++ monN m ++ [32] ++ d4 y ++ [32] ++ clockL s ++ gmt
def form1 (y m d w s : Int) : List UInt8 := dayN w ++ [44, 32] ++ d2 d ++ [45] ++ monN m ++ [45] ++ d2 (y % 100) ++ [32] ++ clockL s ++ gmt
def form2 (y m d w s : Int) : List UInt8 := (dayN w).take 3 ++ [32] ++ monN m ++ [32] ++ short2 d ++ [32] ++ clockL s ++ [32] ++ d4 y
def formK (k : Int) (y m d w s : Int) : List UInt8 := if k = 0 then form0 y m d w s else if k = 1 then form1 y m d w s else form2 y m d w s

/-- A number's digits, with noughts ahead. -/
def padded (size : Nat) (n : Nat) : List UInt8 := List.replicate (size - (digs 10 64 n).length) 48 ++ digs 10 64 n
theorem padded2_all : (List.range 100).all (fun n => padded 2 n == d2 n) = true := by decide +kernel
theorem padded2 (n : Nat) (h : n < 100) : padded 2 n = d2 n := eq_of_beq (List.all_eq_true.1 padded2_all n (List.mem_range.2 h))
theorem digC_dg (k n : Nat) (h : k = n % 10) : digC k = dg n := by
  subst h
  unfold dg
  congr 1
theorem padded4 (n : Nat) (h : n < 10000) : padded 4 n = d4 n := by
  have e1 : (n : Int) / 10 = ((n / 10 : Nat) : Int) := by omega
  have e2 : (n : Int) / 100 = ((n / 100 : Nat) : Int) := by omega
  have e3 : (n : Int) / 1000 = ((n / 1000 : Nat) : Int) := by omega
  unfold d4 padded
  rw [e1, e2, e3]
  have z : digC 0 = 48 := rfl
  by_cases h1 : n < 10
  · rw [digs_small 10 n h1, digC_dg n n (by omega)]
    rw [← digC_dg 0 (n / 10) (by omega), ← digC_dg 0 (n / 100) (by omega), ← digC_dg 0 (n / 1000) (by omega), z]
    rfl
  · rw [digs_step 10 (by omega) n (by omega) (by omega), digC_dg (n % 10) n rfl]
    by_cases h2 : n < 100
    · rw [digs_small 10 (n / 10) (by omega), digC_dg (n / 10) (n / 10) (by omega)]
      rw [← digC_dg 0 (n / 100) (by omega), ← digC_dg 0 (n / 1000) (by omega), z]
      rfl
    · rw [digs_step 10 (by omega) (n / 10) (by omega) (by omega), digC_dg (n / 10 % 10) (n / 10) rfl, Nat.div_div_eq_div_mul]
      by_cases h3 : n < 1000
      · rw [digs_small 10 (n / (10 * 10)) (by omega), digC_dg (n / (10 * 10)) (n / 100) (by omega)]
        rw [← digC_dg 0 (n / 1000) (by omega), z]
        rfl
      · rw [digs_step 10 (by omega) (n / (10 * 10)) (by omega) (by omega), digC_dg (n / (10 * 10) % 10) (n / 100) (by omega), Nat.div_div_eq_div_mul]
        rw [digs_small 10 (n / (10 * 10 * 10)) (by omega), digC_dg (n / (10 * 10 * 10)) (n / 1000) (by omega)]
        rfl
end IH

/- Layer 2 in plain Lean: a form, read by its pieces, says its moment. No program in sight; no condition. -/
namespace IH

/-- The pieces of a text between the places of an octet. -/
def pieces (sep : UInt8) : List UInt8 → List (List UInt8)
  | [] => [[]]
  | c :: r => if c = sep then [] :: pieces sep r else match pieces sep r with
    | [] => [[c]]
    | p :: ps => (c :: p) :: ps

theorem pieces_ne (sep : UInt8) (l : List UInt8) : pieces sep l ≠ [] := by
  cases l with
  | nil => simp [pieces]
  | cons c r =>
    unfold pieces
    split
    · simp
    · split <;> simp
theorem pieces_one {sep : UInt8} {a : List UInt8} (h : ∀ c ∈ a, c ≠ sep) : pieces sep a = [a] := by
  induction a with
  | nil => rfl
  | cons c a ih =>
    unfold pieces
    rw [if_neg (h c (by simp)), ih fun x hx => h x (by simp [hx])]
theorem pieces_cut {sep : UInt8} {a : List UInt8} (h : ∀ c ∈ a, c ≠ sep) (b : List UInt8) : pieces sep (a ++ sep :: b) = a :: pieces sep b := by
  induction a with
  | nil => simp [pieces]
  | cons c a ih =>
    rw [List.cons_append]
    conv => lhs; unfold pieces
    rw [if_neg (h c (by simp)), ih fun x hx => h x (by simp [hx])]
theorem pieces_count (sep : UInt8) (l : List UInt8) : (pieces sep l).length = l.count sep + 1 := by
  induction l with
  | nil => simp [pieces]
  | cons c r ih =>
    unfold pieces
    split
    · rename_i h; subst h; simp [ih]
    · rename_i h
      rw [List.count_cons_of_ne h]
      split
      · rename_i h0; exact absurd h0 (pieces_ne sep r)
      · rename_i p ps h0; rw [h0] at ih; simpa using ih

def digitsD (l : List UInt8) : Int := if (numR 10 9999 l).2 = 0 then (numR 10 9999 l).1 else -1
theorem accN_le (l : List UInt8) (n m : Int) (h : accN 10 9999 n l = some m) (h0 : 0 ≤ n) (h1 : n ≤ 9999) : 0 ≤ m ∧ m ≤ 9999 := accN_bound 10 (by omega) 9999 n m l h h0 h1
theorem numR_bd (l : List UInt8) (h : (numR 10 9999 l).2 = 0) : 0 ≤ (numR 10 9999 l).1 ∧ (numR 10 9999 l).1 ≤ 9999 := by
  unfold numR at *
  by_cases h1 : l = []
  · rw [if_pos h1] at h; simp at h
  · rw [if_neg h1] at h ⊢
    by_cases h2 : badDig 10 l = true
    · rw [if_pos h2] at h; simp at h
    · rw [if_neg h2, if_neg (by omega)] at h ⊢
      cases hA : accN 10 9999 0 l with
      | none => rw [hA] at h; simp [accR] at h
      | some m => have := accN_le l 0 m hA (by omega) (by omega); simp only [accR]; exact this
theorem digitsD_bd (l : List UInt8) : -1 ≤ digitsD l ∧ digitsD l ≤ 9999 := by
  unfold digitsD
  by_cases h : (numR 10 9999 l).2 = 0
  · rw [if_pos h]; have := numR_bd l h; omega
  · rw [if_neg h]; omega
theorem dig_dg (n : Int) : (dig (dg n) : Int) = n % 10 := by
  unfold dg
  have : 0 ≤ n % 10 ∧ n % 10 < 10 := by omega
  rw [dig_digC _ (by omega)]
  omega
theorem dg_bd (n : Int) : 48 ≤ (dg n).toNat ∧ (dg n).toNat ≤ 57 := by
  unfold dg digC
  have : 0 ≤ n % 10 ∧ n % 10 < 10 := by omega
  rw [if_pos (by omega)]
  rw [UInt8.toNat_ofNat']
  omega
theorem dg_ne (n : Int) (x : UInt8) (h : x.toNat < 48 ∨ 57 < x.toNat) : dg n ≠ x := by
  rintro rfl
  have := dg_bd n
  omega
theorem badDig_dg (n : Int) (l : List UInt8) : badDig 10 (dg n :: l) = badDig 10 l := by
  have := dig_dg n
  have h2 : 0 ≤ n % 10 ∧ n % 10 < 10 := by omega
  unfold badDig
  rw [List.any_cons, decide_eq_false (by omega), Bool.false_or]
theorem accN_dg (n a : Int) (l : List UInt8) (h0 : 0 ≤ a) (h1 : a ≤ 999) : accN 10 9999 a (dg n :: l) = accN 10 9999 (a * 10 + n % 10) l := by
  have h := dig_dg n
  have h2 : 0 ≤ n % 10 ∧ n % 10 < 10 := by omega
  conv => lhs; unfold accN
  rw [h]
  rw [if_neg]
  · rfl
  · intro hc
    rcases hc with hc | hc
    · omega
    · have : (((10 : Nat) : Int)) = 10 := rfl
      rw [this] at hc
      omega
theorem digits1 (n : Int) (h0 : 0 ≤ n) (h1 : n < 10) : digitsD [dg n] = n := by
  have e : numR 10 9999 [dg n] = (n, 0) := by
    unfold numR
    rw [if_neg (by simp), badDig_dg, accN_dg n 0 [] (by omega) (by omega)]
    simp [badDig, accN, accR]; omega
  unfold digitsD; rw [e]; rfl
theorem digits2 (n : Int) (h0 : 0 ≤ n) (h1 : n < 100) : digitsD (d2 n) = n := by
  have e : numR 10 9999 (d2 n) = (n, 0) := by
    unfold numR d2
    rw [if_neg (by simp), badDig_dg, badDig_dg, accN_dg _ 0 _ (by omega) (by omega), accN_dg _ _ _ (by omega) (by omega)]
    simp [badDig, accN, accR]; omega
  unfold digitsD; rw [e]; rfl
theorem digits4 (n : Int) (h0 : 0 ≤ n) (h1 : n < 10000) : digitsD (d4 n) = n := by
  have e : numR 10 9999 (d4 n) = (n, 0) := by
    unfold numR d4
    rw [if_neg (by simp), badDig_dg, badDig_dg, badDig_dg, badDig_dg, accN_dg _ 0 _ (by omega) (by omega), accN_dg _ _ _ (by omega) (by omega), accN_dg _ _ _ (by omega) (by omega), accN_dg _ _ _ (by omega) (by omega)]
    simp [badDig, accN, accR]; omega
  unfold digitsD; rw [e]; rfl

/-- A time of day, read. -/
def timedL (s : List UInt8) : Option (Int × Int × Int) :=
  match pieces 58 s with
  | [a, b, c] => if s.length = 8 ∧ a.length = 2 ∧ b.length = 2 ∧ 0 ≤ digitsD a ∧ digitsD a < 24 ∧ 0 ≤ digitsD b ∧ digitsD b < 60 ∧ 0 ≤ digitsD c ∧ digitsD c < 60 then some (digitsD a, digitsD b, digitsD c) else none
  | _ => none
/-- A month's number, by its name; 0: it is none. -/
def monOf (l : List UInt8) : Int := match (List.range 12).find? (fun k : Nat => decide (monN ((k : Int) + 1) = l)) with
  | some k => (k : Int) + 1
  | none => 0
def century (l : List UInt8) : Int := if l.length = 2 ∧ 0 ≤ digitsD l then (if digitsD l < 70 then digitsD l + 2000 else digitsD l + 1900) else digitsD l
def datedL (d m y : List UInt8) : Option (Int × Int × Int) :=
  if 1 ≤ monOf m ∧ 1970 ≤ century y ∧ 1 ≤ digitsD d ∧ digitsD d ≤ mlen (century y) (monOf m) then some (century y, monOf m, digitsD d) else none
def tryDT (d m y t : List UInt8) : Option ((Int × Int × Int) × (Int × Int × Int)) :=
  match datedL d m y, timedL t with
  | some a, some b => some (a, b)
  | _, _ => none
def partsL (s : List UInt8) : Option (Int × (Int × Int × Int) × (Int × Int × Int)) :=
  match pieces 32 s with
  | [_, b, c, _] => (match pieces 45 b with
    | [x, y, z] => (tryDT x y z c).map fun r => (1, r)
    | _ => none)
  | [_, b, c, d, e] => (tryDT c b e d).map fun r => (2, r)
  | [a, b, c, d, e, f] => if a.getLast? = some 44 ∧ (tryDT b c d e).isSome then (tryDT b c d e).map fun r => (0, r) else if c = [] then (tryDT d b f e).map fun r => (2, r) else none
  | _ => none

/-- y, m, d is the date of a moment that has forms. -/
structure Moment (mt y m d : Int) : Prop where
  h0 : 0 ≤ mt
  h1 : mt ≤ 253402300799
  civ : Civ (mt / 86400) y m d
def formOf (k mt y m d : Int) : List UInt8 := formK k y m d (mt / 86400 % 7) (mt % 86400)

theorem Moment.year {mt y m d : Int} (h : Moment mt y m d) : 1970 ≤ y ∧ y ≤ 9999 := by
  obtain ⟨h0, h1, h2⟩ := h
  have h3 := h2.year
  have e0 : dby 1970 = 0 := by decide
  have e1 : dby 10000 = 2932897 := by decide
  constructor
  · rcases Int.lt_or_le y 1970 with h | h
    · have := dby_mono (y + 1) 1970 (by omega); omega
    · exact h
  · rcases Int.lt_or_le 9999 y with h | h
    · have := dby_mono 10000 y (by omega); omega
    · omega
theorem Moment.uniq {mt y m d y' m' d' : Int} (h : Moment mt y m d) (h' : Moment mt y' m' d') : y = y' ∧ m = m' ∧ d = d' := h.civ.uniq h'.civ

theorem mem_dayN (w : Int) : ∀ c ∈ dayN w, 65 ≤ c.toNat := by
  have h : w = 0 ∨ w = 1 ∨ w = 2 ∨ w = 3 ∨ w = 4 ∨ w = 5 ∨ (w ≠ 0 ∧ w ≠ 1 ∧ w ≠ 2 ∧ w ≠ 3 ∧ w ≠ 4 ∧ w ≠ 5) := by omega
  rcases h with rfl | rfl | rfl | rfl | rfl | rfl | ⟨h0, h1, h2, h3, h4, h5⟩ <;> first | decide | (unfold dayN; rw [if_neg h0, if_neg h1, if_neg h2, if_neg h3, if_neg h4, if_neg h5]; decide)
theorem monN_cases (m : Int) (h1 : 1 ≤ m) (h2 : m ≤ 12) (P : Int → Prop) (p1 : P 1) (p2 : P 2) (p3 : P 3) (p4 : P 4) (p5 : P 5) (p6 : P 6) (p7 : P 7) (p8 : P 8) (p9 : P 9) (p10 : P 10) (p11 : P 11) (p12 : P 12) : P m := by
  have hm : m = 1 ∨ m = 2 ∨ m = 3 ∨ m = 4 ∨ m = 5 ∨ m = 6 ∨ m = 7 ∨ m = 8 ∨ m = 9 ∨ m = 10 ∨ m = 11 ∨ m = 12 := by omega
  rcases hm with rfl | rfl | rfl | rfl | rfl | rfl | rfl | rfl | rfl | rfl | rfl | rfl <;> assumption
theorem mem_monN (m : Int) (h1 : 1 ≤ m) (h2 : m ≤ 12) : ∀ c ∈ monN m, 65 ≤ c.toNat := by
  refine monN_cases m h1 h2 (fun m => ∀ c ∈ monN m, 65 ≤ c.toNat) ?_ ?_ ?_ ?_ ?_ ?_ ?_ ?_ ?_ ?_ ?_ ?_ <;> decide
theorem monOf_monN (m : Int) (h1 : 1 ≤ m) (h2 : m ≤ 12) : monOf (monN m) = m := by
  refine monN_cases m h1 h2 (fun m => monOf (monN m) = m) ?_ ?_ ?_ ?_ ?_ ?_ ?_ ?_ ?_ ?_ ?_ ?_ <;> decide +kernel
theorem monOf_bd (l : List UInt8) : 0 ≤ monOf l ∧ monOf l ≤ 12 := by
  unfold monOf
  cases h : (List.range 12).find? (fun k : Nat => decide (monN ((k : Int) + 1) = l)) with
  | none => simp
  | some k =>
    have := List.mem_range.1 (List.mem_of_find?_eq_some h)
    simp only
    omega
theorem monOf_inv (l : List UInt8) (h1 : 1 ≤ monOf l) : l = monN (monOf l) := by
  unfold monOf at *
  cases h : (List.range 12).find? (fun k : Nat => decide (monN ((k : Int) + 1) = l)) with
  | none => rw [h] at h1; simp at h1
  | some k =>
    have := List.find?_some h
    simp only [decide_eq_true_eq] at this
    simp only
    exact this.symm

theorem mem_d2 (n : Int) : ∀ c ∈ d2 n, 48 ≤ c.toNat ∧ c.toNat ≤ 57 := by
  intro c hc
  simp [d2] at hc
  rcases hc with rfl | rfl <;> exact dg_bd _
theorem mem_d4 (n : Int) : ∀ c ∈ d4 n, 48 ≤ c.toNat ∧ c.toNat ≤ 57 := by
  intro c hc
  simp [d4] at hc
  rcases hc with rfl | rfl | rfl | rfl <;> exact dg_bd _
theorem ne_of_toNat {c x : UInt8} (h : c.toNat ≠ x.toNat) : c ≠ x := fun e => h (by rw [e])
theorem mem_clock (s : Int) : ∀ c ∈ clockL s, 48 ≤ c.toNat ∧ c.toNat ≤ 58 := by
  intro c hc
  simp only [clockL, List.mem_append, List.mem_singleton] at hc
  rcases hc with (((hc | rfl) | hc) | rfl) | hc
  · have := mem_d2 _ c hc; omega
  · decide
  · have := mem_d2 _ c hc; omega
  · decide
  · have := mem_d2 _ c hc; omega

theorem timed_clock (s : Int) (h0 : 0 ≤ s) (h1 : s < 86400) : timedL (clockL s) = some (s / 3600, s / 60 % 60, s % 60) := by
  have e : clockL s = d2 (s / 3600) ++ 58 :: (d2 (s / 60 % 60) ++ 58 :: d2 (s % 60)) := by simp [clockL]
  have hp : pieces 58 (clockL s) = [d2 (s / 3600), d2 (s / 60 % 60), d2 (s % 60)] := by
    have q : ∀ n, ∀ c ∈ d2 n, c ≠ 58 := fun n c hc => ne_of_toNat (by have := mem_d2 n c hc; have e : (58 : UInt8).toNat = 58 := rfl; omega)
    rw [e, pieces_cut (q _), pieces_cut (q _), pieces_one (q _)]
  unfold timedL
  rw [hp]
  simp only
  rw [digits2 (s / 3600) (by omega) (by omega), digits2 (s / 60 % 60) (by omega) (by omega), digits2 (s % 60) (by omega) (by omega)]
  rw [if_pos ⟨by simp [clockL, d2], by simp [d2], by simp [d2], by omega, by omega, by omega, by omega, by omega, by omega⟩]

theorem dated_of (d m y : Int) (dl yl : List UInt8) (hd : digitsD dl = d) (hy : century yl = y) (h1 : 1 ≤ m) (h2 : m ≤ 12) (h3 : 1970 ≤ y) (h4 : 1 ≤ d) (h5 : d ≤ mlen y m) : datedL dl (monN m) yl = some (y, m, d) := by
  unfold datedL
  rw [monOf_monN m h1 h2, hy, hd, if_pos ⟨h1, h3, h4, h5⟩]
theorem century4 (y : Int) (h0 : 0 ≤ y) (h1 : y < 10000) : century (d4 y) = y := by
  unfold century
  rw [digits4 y h0 h1, if_neg (by simp [d4])]
theorem century2 (y : Int) (h0 : 1970 ≤ y) (h1 : y ≤ 2069) : century (d2 (y % 100)) = y := by
  unfold century
  rw [digits2 (y % 100) (by omega) (by omega), if_pos ⟨by simp [d2], by omega⟩]
  split <;> omega
theorem century2_le (y : Int) : century (d2 (y % 100)) ≤ 2069 := by
  unfold century
  rw [digits2 (y % 100) (by omega) (by omega), if_pos ⟨by simp [d2], by omega⟩]
  split <;> omega

theorem pieces_form0 (y m d w s : Int) (h1 : 1 ≤ m) (h2 : m ≤ 12) : pieces 32 (form0 y m d w s) = [(dayN w).take 3 ++ [44], d2 d, monN m, d4 y, clockL s, [71, 77, 84]] := by
  have e32 : (32 : UInt8).toNat = 32 := rfl
  have e : form0 y m d w s = ((dayN w).take 3 ++ [44]) ++ 32 :: (d2 d ++ 32 :: (monN m ++ 32 :: (d4 y ++ 32 :: (clockL s ++ 32 :: [71, 77, 84])))) := by simp [form0, gmt]
  have qd : ∀ c ∈ (dayN w).take 3 ++ [44], c ≠ 32 := by
    intro c hc
    rcases List.mem_append.1 hc with hc | hc
    · have := mem_dayN w c (List.mem_of_mem_take hc)
      exact ne_of_toNat (by omega)
    · simp at hc; subst hc; decide
  have q2 : ∀ n, ∀ c ∈ d2 n, c ≠ 32 := fun n c hc => ne_of_toNat (by have := mem_d2 n c hc; omega)
  have q4 : ∀ n, ∀ c ∈ d4 n, c ≠ 32 := fun n c hc => ne_of_toNat (by have := mem_d4 n c hc; omega)
  have qm : ∀ c ∈ monN m, c ≠ 32 := fun c hc => ne_of_toNat (by have := mem_monN m h1 h2 c hc; omega)
  have qc : ∀ c ∈ clockL s, c ≠ 32 := fun c hc => ne_of_toNat (by have := mem_clock s c hc; omega)
  have qg : ∀ c ∈ ([71, 77, 84] : List UInt8), c ≠ 32 := by decide
  rw [e, pieces_cut qd, pieces_cut (q2 _), pieces_cut qm, pieces_cut (q4 _), pieces_cut qc, pieces_one qg]
theorem pieces_form1 (y m d w s : Int) (h1 : 1 ≤ m) (h2 : m ≤ 12) : pieces 32 (form1 y m d w s) = [dayN w ++ [44], d2 d ++ [45] ++ monN m ++ [45] ++ d2 (y % 100), clockL s, [71, 77, 84]] ∧ pieces 45 (d2 d ++ [45] ++ monN m ++ [45] ++ d2 (y % 100)) = [d2 d, monN m, d2 (y % 100)] := by
  have e32 : (32 : UInt8).toNat = 32 := rfl
  have e45 : (45 : UInt8).toNat = 45 := rfl
  have e : form1 y m d w s = (dayN w ++ [44]) ++ 32 :: ((d2 d ++ [45] ++ monN m ++ [45] ++ d2 (y % 100)) ++ 32 :: (clockL s ++ 32 :: [71, 77, 84])) := by simp [form1, gmt]
  have e2 : d2 d ++ [45] ++ monN m ++ [45] ++ d2 (y % 100) = d2 d ++ 45 :: (monN m ++ 45 :: d2 (y % 100)) := by simp
  have qd : ∀ c ∈ dayN w ++ [44], c ≠ 32 := by
    intro c hc
    rcases List.mem_append.1 hc with hc | hc
    · have := mem_dayN w c hc
      exact ne_of_toNat (by omega)
    · simp at hc; subst hc; decide
  have q2 : ∀ n, ∀ c ∈ d2 n, c ≠ 32 ∧ c ≠ 45 := fun n c hc => ⟨ne_of_toNat (by have := mem_d2 n c hc; omega), ne_of_toNat (by have := mem_d2 n c hc; omega)⟩
  have qm : ∀ c ∈ monN m, c ≠ 32 ∧ c ≠ 45 := fun c hc => ⟨ne_of_toNat (by have := mem_monN m h1 h2 c hc; omega), ne_of_toNat (by have := mem_monN m h1 h2 c hc; omega)⟩
  have qc : ∀ c ∈ clockL s, c ≠ 32 := fun c hc => ne_of_toNat (by have := mem_clock s c hc; omega)
  have qg : ∀ c ∈ ([71, 77, 84] : List UInt8), c ≠ 32 := by decide
  have qb : ∀ c ∈ d2 d ++ [45] ++ monN m ++ [45] ++ d2 (y % 100), c ≠ 32 := by
    intro c hc
    simp only [List.mem_append, List.mem_singleton] at hc
    rcases hc with (((hc | rfl) | hc) | rfl) | hc
    · exact (q2 _ c hc).1
    · decide
    · exact (qm c hc).1
    · decide
    · exact (q2 _ c hc).1
  constructor
  · rw [e, pieces_cut qd, pieces_cut qb, pieces_cut qc, pieces_one qg]
  · rw [e2, pieces_cut (fun c hc => (q2 _ c hc).2), pieces_cut (fun c hc => (qm c hc).2), pieces_one (fun c hc => (q2 _ c hc).2)]
theorem pieces_form2 (y m d w s : Int) (h1 : 1 ≤ m) (h2 : m ≤ 12) : pieces 32 (form2 y m d w s) = if d < 10 then [(dayN w).take 3, monN m, [], [dg d], clockL s, d4 y] else [(dayN w).take 3, monN m, d2 d, clockL s, d4 y] := by
  have e32 : (32 : UInt8).toNat = 32 := rfl
  have qd : ∀ c ∈ (dayN w).take 3, c ≠ 32 := by
    intro c hc
    have := mem_dayN w c (List.mem_of_mem_take hc)
    exact ne_of_toNat (by omega)
  have q1 : ∀ c ∈ [dg d], c ≠ 32 := by
    intro c hc
    simp at hc; subst hc
    exact ne_of_toNat (by have := dg_bd d; omega)
  have q0 : ∀ c ∈ ([] : List UInt8), c ≠ 32 := by simp
  have q2 : ∀ n, ∀ c ∈ d2 n, c ≠ 32 := fun n c hc => ne_of_toNat (by have := mem_d2 n c hc; omega)
  have q4 : ∀ n, ∀ c ∈ d4 n, c ≠ 32 := fun n c hc => ne_of_toNat (by have := mem_d4 n c hc; omega)
  have qm : ∀ c ∈ monN m, c ≠ 32 := fun c hc => ne_of_toNat (by have := mem_monN m h1 h2 c hc; omega)
  have qc : ∀ c ∈ clockL s, c ≠ 32 := fun c hc => ne_of_toNat (by have := mem_clock s c hc; omega)
  by_cases hd : d < 10
  · have e : form2 y m d w s = (dayN w).take 3 ++ 32 :: (monN m ++ 32 :: ([] ++ 32 :: ([dg d] ++ 32 :: (clockL s ++ 32 :: d4 y)))) := by simp [form2, short2, hd]
    rw [e, pieces_cut qd, pieces_cut qm, pieces_cut q0, pieces_cut q1, pieces_cut qc, pieces_one (q4 _), if_pos hd]
  · have e : form2 y m d w s = (dayN w).take 3 ++ 32 :: (monN m ++ 32 :: (d2 d ++ 32 :: (clockL s ++ 32 :: d4 y))) := by simp [form2, short2, hd]
    rw [e, pieces_cut qd, pieces_cut qm, pieces_cut (q2 _), pieces_cut qc, pieces_one (q4 _), if_neg hd]

theorem tryDT_of {d m y t : List UInt8} {a b : Int × Int × Int} (h1 : datedL d m y = some a) (h2 : timedL t = some b) : tryDT d m y t = some (a, b) := by unfold tryDT; rw [h1, h2]

/-- A form is read as what it was made of. -/
theorem parts_form {k mt y m d : Int} (h : Moment mt y m d) (hk : k = 0 ∨ (k = 1 ∧ y ≤ 2069) ∨ k = 2) : partsL (formOf k mt y m d) = some (k, (y, m, d), (mt % 86400 / 3600, mt % 86400 / 60 % 60, mt % 86400 % 60)) := by
  obtain ⟨hy0, hy1⟩ := h.year
  obtain ⟨h0, h1, hm1, hm2, hd1, hd2, hn⟩ := h
  have hml := mlen_bd y m
  have ht := timed_clock (mt % 86400) (by omega) (by omega)
  rcases hk with rfl | ⟨rfl, hy⟩ | rfl
  · have hD := dated_of d m y (d2 d) (d4 y) (digits2 d (by omega) (by omega)) (century4 y (by omega) (by omega)) hm1 hm2 hy0 hd1 hd2
    have e : formOf 0 mt y m d = form0 y m d (mt / 86400 % 7) (mt % 86400) := rfl
    unfold partsL
    rw [e, pieces_form0 _ _ _ _ _ hm1 hm2]
    simp only
    rw [tryDT_of hD ht, if_pos ⟨by simp, rfl⟩]
    rfl
  · have hD := dated_of d m y (d2 d) (d2 (y % 100)) (digits2 d (by omega) (by omega)) (century2 y hy0 hy) hm1 hm2 hy0 hd1 hd2
    have e : formOf 1 mt y m d = form1 y m d (mt / 86400 % 7) (mt % 86400) := rfl
    obtain ⟨p1, p2⟩ := pieces_form1 y m d (mt / 86400 % 7) (mt % 86400) hm1 hm2
    unfold partsL
    rw [e, p1]
    simp only
    rw [p2]
    simp only
    rw [tryDT_of hD ht]
    rfl
  · have e : formOf 2 mt y m d = form2 y m d (mt / 86400 % 7) (mt % 86400) := rfl
    have p := pieces_form2 y m d (mt / 86400 % 7) (mt % 86400) hm1 hm2
    by_cases hd : d < 10
    · have hD := dated_of d m y [dg d] (d4 y) (digits1 d (by omega) (by omega)) (century4 y (by omega) (by omega)) hm1 hm2 hy0 hd1 hd2
      rw [if_pos hd] at p
      unfold partsL
      rw [e, p]
      simp only
      rw [if_neg, if_pos trivial, tryDT_of hD ht]
      · rfl
      · intro hc
        have := mem_dayN (mt / 86400 % 7) 44 (List.mem_of_mem_take (List.mem_of_getLast? hc.1))
        exact absurd this (by decide)
    · have hD := dated_of d m y (d2 d) (d4 y) (digits2 d (by omega) (by omega)) (century4 y (by omega) (by omega)) hm1 hm2 hy0 hd1 hd2
      rw [if_neg hd] at p
      unfold partsL
      rw [e, p]
      simp only
      rw [tryDT_of hD ht]
      rfl

def joinedAt (c : (Int × Int × Int) × (Int × Int × Int)) : Int := (dby c.1.1 + cum c.1.1 c.1.2.1 + c.1.2.2 - 1) * 86400 + c.2.1 * 3600 + c.2.2.1 * 60 + c.2.2.2
theorem tryDT_inv {d m y t : List UInt8} {c : (Int × Int × Int) × (Int × Int × Int)} (h : tryDT d m y t = some c) : Moment (joinedAt c) c.1.1 c.1.2.1 c.1.2.2 ∧ joinedAt c % 86400 = c.2.1 * 3600 + c.2.2.1 * 60 + c.2.2.2 ∧ c.1.1 = century y ∧ 0 ≤ c.2.1 ∧ c.2.1 ≤ 23 ∧ 0 ≤ c.2.2.1 ∧ c.2.2.1 ≤ 59 ∧ 0 ≤ c.2.2.2 ∧ c.2.2.2 ≤ 59 := by
  unfold tryDT at h
  split at h
  · rename_i a b ha hb
    simp only [Option.some.injEq] at h
    subst h
    unfold datedL at ha
    split at ha
    · rename_i hc
      obtain ⟨hm, hy, hd1, hd2⟩ := hc
      simp only [Option.some.injEq] at ha
      subst ha
      have hmb := monOf_bd m
      have hyb : century y ≤ 9999 := by
        have := digitsD_bd y
        unfold century
        split
        · rename_i hc
          split
          · omega
          · rename_i h70
            have : digitsD y < 100 ∨ 100 ≤ digitsD y := by omega
            rcases this with h | h
            · omega
            · exfalso
              obtain ⟨hl, _⟩ := hc
              match y, hl with
              | [p, q], _ =>
                have hp : dig p < 10 ∨ 10 ≤ dig p := by omega
                have hq : dig q < 10 ∨ 10 ≤ dig q := by omega
                unfold digitsD numR at h
                rcases hp with hp | hp
                · rcases hq with hq | hq
                  · have hb : badDig 10 [p, q] = false := by simp [badDig]; omega
                    simp only [hb] at h
                    simp [accN] at h
                    have e0 : ¬ ((9999 : Int) < dig p ∨ (9999 - (dig p : Int)) / 10 < 0) := by omega
                    have e1 : ¬ ((9999 : Int) < dig q ∨ (9999 - (dig q : Int)) / 10 < (dig p : Int)) := by omega
                    simp [e0, e1, accR] at h
                    omega
                  · have hb : badDig 10 [p, q] = true := by simp [badDig]; omega
                    simp [hb] at h
                · have hb : badDig 10 [p, q] = true := by simp [badDig]; omega
                  simp [hb] at h
        · omega
      unfold timedL at hb
      split at hb
      · split at hb
        · rename_i hc
          obtain ⟨_, _, _, t0, t1, t2, t3, t4, t5⟩ := hc
          simp only [Option.some.injEq] at hb
          subst hb
          simp only [joinedAt]
          have c1 := cum_bd (century y) (monOf m)
          have c2 := dby_mono 1970 (century y) hy
          have c3 : dby 1970 = 0 := dby_1970
          have c4 := dby_mono (century y + 1) 10000 (by omega)
          have c5 : dby 10000 = 2932897 := by decide
          have c6 := dby_succ (century y)
          have c7 := cum_mono (century y) (monOf m + 1) 13 (by omega) (by omega) (by omega)
          have c8 := cum_succ (century y) (monOf m) (by omega) (by omega)
          have c9 := cum_13 (century y)
          refine ⟨⟨by omega, by omega, by omega, by omega, hd1, hd2, by omega⟩, by omega, trivial, by omega, by omega, by omega, by omega, by omega, by omega⟩
        · cases hb
      · cases hb
    · cases ha
  · cases h
end IH
