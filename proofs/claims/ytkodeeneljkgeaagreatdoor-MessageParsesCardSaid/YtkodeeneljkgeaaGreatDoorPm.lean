/- Pm: several texts, one behind the other. -/

/- Layer 1 in plain Lean: octets, tokens, trimming, small letters. No program in sight; no condition. -/
namespace IH

/-- A letter or a digit. -/
def isLetter (c : UInt8) : Bool := (97 ≤ c.toNat && c.toNat ≤ 122) || (65 ≤ c.toNat && c.toNat ≤ 90) || (48 ≤ c.toNat && c.toNat ≤ 57)
def isPlain (c : UInt8) : Bool := (32 ≤ c.toNat && !(c.toNat == 127)) || c.toNat == 9
def allOf (p : UInt8 → Bool) (l : List UInt8) : Bool := l.all p
def marks : List UInt8 := [33, 35, 36, 37, 38, 39, 42, 43, 45, 46, 94, 95, 96, 124, 126]
def isMark (c : UInt8) : Bool := marks.contains c
def isTchar (c : UInt8) : Bool := isLetter c || isMark c
def isBlank (c : UInt8) : Bool := c.toNat == 32 || c.toNat == 9
def token (l : List UInt8) : Bool := !l.isEmpty && allOf isTchar l
def trimL (l : List UInt8) : List UInt8 := l.dropWhile isBlank
def trimR (l : List UInt8) : List UInt8 := (trimL l.reverse).reverse
def trim (l : List UInt8) : List UInt8 := trimL (trimR l)
def value (l : List UInt8) : Bool := allOf isPlain l && (trim l == l)
def lowerC (c : UInt8) : UInt8 := if 65 ≤ c.toNat && c.toNat ≤ 90 then c + 32 else c
def lower (l : List UInt8) : List UInt8 := l.map lowerC

theorem trimL_blank {c : UInt8} {l : List UInt8} (h : isBlank c = true) : trimL (c :: l) = trimL l := by simp [trimL, h]
theorem trimL_head {c : UInt8} {l : List UInt8} (h : isBlank c = false) : trimL (c :: l) = c :: l := by simp [trimL, h]
theorem trimL_nil : trimL [] = [] := rfl
theorem trimR_nil : trimR [] = [] := rfl
theorem trimR_blank {c : UInt8} {l : List UInt8} (h : isBlank c = true) : trimR (l ++ [c]) = trimR l := by
  simp [trimR, trimL_blank h]
theorem trimR_last {c : UInt8} {l : List UInt8} (h : isBlank c = false) : trimR (l ++ [c]) = l ++ [c] := by
  simp [trimR, trimL_head h]
theorem trimR_cons (c : UInt8) (l : List UInt8) : trimR (c :: l) = if trimR l = [] then (if isBlank c then [] else [c]) else c :: trimR l := by
  unfold trimR trimL
  simp only [List.reverse_cons, List.dropWhile_append, List.reverse_eq_nil_iff]
  by_cases h : List.dropWhile isBlank l.reverse = []
  · by_cases hb : isBlank c <;> simp [h, hb]
  · simp [h]
theorem trim_comm (l : List UInt8) : trimR (trimL l) = trimL (trimR l) := by
  induction l with
  | nil => rfl
  | cons c l ih =>
    by_cases hb : isBlank c
    · rw [trimL_blank hb, ih, trimR_cons]
      by_cases h : trimR l = []
      · simp [h, hb, trimL_nil]
      · simp [h, trimL_blank hb]
    · have hb' : isBlank c = false := by simpa using hb
      rw [trimL_head hb', trimR_cons]
      by_cases h : trimR l = []
      · simp [h, hb', trimL_head hb']
      · simp [h, trimL_head hb']
theorem dropWhile_length_le (p : UInt8 → Bool) (l : List UInt8) : (l.dropWhile p).length ≤ l.length := (List.dropWhile_suffix p).length_le
theorem trimL_length (l : List UInt8) : (trimL l).length ≤ l.length := dropWhile_length_le _ _
theorem trimR_length (l : List UInt8) : (trimR l).length ≤ l.length := by
  have := dropWhile_length_le isBlank l.reverse
  simp [trimR, trimL] at *; exact this
theorem trim_length (l : List UInt8) : (trim l).length ≤ l.length := Nat.le_trans (trimL_length _) (trimR_length _)

/-- A text is what is left of it trimmed, just if no blank stands at its ends. -/
theorem trim_eq_nil (l : List UInt8) : l = [] ∨ (∃ c m, l = c :: m) := by cases l <;> simp
theorem trim_self {l : List UInt8} : trim l = l ↔ (∀ c, l.head? = some c → isBlank c = false) ∧ (∀ c, l.getLast? = some c → isBlank c = false) := by
  constructor
  · intro h
    have hl : (trim l).length = l.length := by rw [h]
    constructor
    · intro c hc
      cases l with
      | nil => simp at hc
      | cons d m =>
        simp at hc; subst hc
        by_cases hb : isBlank d = false
        · exact hb
        · have hb' : isBlank d = true := by simpa using hb
          have e : trim (d :: m) = trim m := by unfold trim; rw [← trim_comm, ← trim_comm, trimL_blank hb']
          rw [e] at hl
          have := trim_length m
          simp at hl; omega
    · intro c hc
      rcases List.eq_nil_or_concat l with rfl | ⟨m, d, rfl⟩
      · simp at hc
      · rw [List.concat_eq_append] at *
        simp at hc; subst hc
        by_cases hb : isBlank d = false
        · exact hb
        · have hb' : isBlank d = true := by simpa using hb
          have e : trim (m ++ [d]) = trim m := by unfold trim; rw [trimR_blank hb']
          rw [e] at hl
          have := trim_length m
          simp at hl; omega
  · rintro ⟨h1, h2⟩
    unfold trim
    have e : trimR l = l := by
      rcases List.eq_nil_or_concat l with rfl | ⟨m, d, rfl⟩
      · rfl
      · rw [List.concat_eq_append] at *
        exact trimR_last (h2 d (by simp))
    rw [e]
    cases l with
    | nil => rfl
    | cons d m => exact trimL_head (h1 d (by simp))
end IH

/- Layer 1 in plain Lean: lists of texts, cut at commas outside of quotation marks; by the code's way and by the document's. No program in sight; no condition. -/
namespace IH

/-- Where the first comma stands outside of quotation marks; the length, if there is none. -/
def comma : Bool → Bool → List UInt8 → Nat
  | _, _, [] => 0
  | ins, skip, c :: r =>
    if c = 44 ∧ ins = false then 0
    else if skip then 1 + comma ins false r
    else if c = 34 then 1 + comma (!ins) false r
    else if c = 92 ∧ ins = true then 1 + comma ins true r
    else 1 + comma ins false r

def emit (x : List UInt8) : List (List UInt8) := if trim x = [] then [] else [trim x]
def splitF : Nat → List UInt8 → List (List UInt8)
  | 0, _ => []
  | f + 1, l => if l = [] then [] else emit (l.take (comma false false l)) ++ splitF f (l.drop (comma false false l + 1))
def split1 (l : List UInt8) : List (List UInt8) := splitF l.length l
def splitL (L : List (List UInt8)) : List (List UInt8) := L.flatMap split1

theorem comma_le (ins skip : Bool) (l : List UInt8) : comma ins skip l ≤ l.length := by
  induction l generalizing ins skip with
  | nil => simp [comma]
  | cons c r ih =>
    unfold comma
    split
    · simp
    · split
      · have := ih ins false; simp; omega
      · split
        · have := ih (!ins) false; simp; omega
        · split
          · have := ih ins true; simp; omega
          · have := ih ins false; simp; omega

theorem emit_length (x : List UInt8) : (emit x).length ≤ x.length := by
  unfold emit
  split
  · simp
  · rename_i h
    have h1 := trim_length x
    have : (trim x).length ≠ 0 := by simpa using h
    simp; omega

theorem splitF_length (f : Nat) (l : List UInt8) : (splitF f l).length ≤ l.length := by
  induction f generalizing l with
  | zero => simp [splitF]
  | succ f ih =>
    unfold splitF
    split
    · simp
    · have h1 := ih (l.drop (comma false false l + 1))
      have h2 := emit_length (l.take (comma false false l))
      have h3 := comma_le false false l
      simp only [List.length_append, List.length_drop, List.length_take] at *
      omega

theorem splitF_more (f g : Nat) (l : List UInt8) (h : l.length ≤ f) (h' : l.length ≤ g) : splitF f l = splitF g l := by
  induction f generalizing g l with
  | zero =>
    have : l = [] := List.eq_nil_of_length_eq_zero (by omega)
    subst this
    cases g <;> simp [splitF]
  | succ f ih =>
    cases g with
    | zero =>
      have : l = [] := List.eq_nil_of_length_eq_zero (by omega)
      subst this
      simp [splitF]
    | succ g =>
      unfold splitF
      split
      · rfl
      · rename_i hl
        have h0 : 0 < l.length := List.length_pos_iff.2 hl
        rw [ih g (l.drop (comma false false l + 1)) (by rw [List.length_drop]; omega) (by rw [List.length_drop]; omega)]

theorem split1_step (l : List UInt8) (h : l ≠ []) : split1 l = emit (l.take (comma false false l)) ++ split1 (l.drop (comma false false l + 1)) := by
  have h0 : 0 < l.length := List.length_pos_iff.2 h
  unfold split1
  rw [splitF_more l.length (l.length - 1 + 1) l (by omega) (by omega)]
  conv => lhs; unfold splitF
  rw [if_neg h, splitF_more (l.length - 1) (l.drop (comma false false l + 1)).length _ (by rw [List.length_drop]; omega) (Nat.le_refl _)]
theorem split1_nil : split1 [] = [] := rfl
theorem split1_length (l : List UInt8) : (split1 l).length ≤ l.length := splitF_length _ _
theorem splitL_length (L : List (List UInt8)) : (splitL L).length ≤ (L.map List.length).sum := by
  induction L with
  | nil => simp [splitL]
  | cons l L ih =>
    have := split1_length l
    simp only [splitL, List.flatMap_cons, List.length_append, List.map_cons, List.sum_cons] at *
    omega

/-- The document's way: octet by octet. cur: what stands since the last cut. -/
def walk : List UInt8 → Bool → Bool → List UInt8 → List (List UInt8)
  | cur, _, _, [] => emit cur
  | cur, ins, skip, c :: r =>
    if c = 44 ∧ ins = false then emit cur ++ walk [] ins skip r
    else if skip then walk (cur ++ [c]) ins false r
    else walk (cur ++ [c]) (if c = 34 then !ins else ins) (decide (c = 92) && (if c = 34 then !ins else ins)) r

theorem walk_cons (cur : List UInt8) (ins skip : Bool) (c : UInt8) (r : List UInt8) : walk cur ins skip (c :: r) =
    if c = 44 ∧ ins = false then emit cur ++ walk [] ins skip r
    else if skip then walk (cur ++ [c]) ins false r
    else walk (cur ++ [c]) (if c = 34 then !ins else ins) (decide (c = 92) && (if c = 34 then !ins else ins)) r := rfl
theorem comma_cons (ins skip : Bool) (c : UInt8) (r : List UInt8) : comma ins skip (c :: r) =
    if c = 44 ∧ ins = false then 0
    else if skip then 1 + comma ins false r
    else if c = 34 then 1 + comma (!ins) false r
    else if c = 92 ∧ ins = true then 1 + comma ins true r
    else 1 + comma ins false r := rfl

theorem walk_comma (cur : List UInt8) (ins skip : Bool) (l : List UInt8) (h : skip = true → ins = true) :
    walk cur ins skip l = emit (cur ++ l.take (comma ins skip l)) ++ (if comma ins skip l < l.length then walk [] false false (l.drop (comma ins skip l + 1)) else []) := by
  induction l generalizing cur ins skip with
  | nil => simp [walk, comma]
  | cons c r ih =>
    rw [walk_cons, comma_cons]
    by_cases h1 : c = 44 ∧ ins = false
    · have hs : skip = false := by
        cases skip
        · rfl
        · have := h rfl; rw [this] at h1; simp at h1
      obtain ⟨rfl, rfl⟩ := h1
      subst hs
      simp
    · rw [if_neg h1, if_neg h1]
      by_cases h2 : skip = true
      · subst h2
        rw [if_pos rfl, if_pos rfl, ih _ _ _ (by simp)]
        rw [Nat.add_comm 1]
        simp
      · rw [if_neg h2, if_neg h2]
        by_cases h3 : c = 34
        · subst h3
          rw [ih _ _ _ (by simp)]
          simp [Nat.add_comm 1]
        · by_cases h4 : c = 92 ∧ ins = true
          · obtain ⟨rfl, rfl⟩ := h4
            rw [ih _ _ _ (by simp)]
            simp [Nat.add_comm 1]
          · have h5 : (decide (c = 92) && ins) = false := by
              cases ins <;> simp at *; exact h4
            simp only [h3, if_false, h4, h5]
            rw [ih _ _ _ (by simp)]
            simp [Nat.add_comm 1]

theorem walk_split (l : List UInt8) : walk [] false false l = split1 l := by
  generalize hn : l.length = n
  induction n using Nat.strongRecOn generalizing l with
  | _ n ih =>
    rw [walk_comma _ _ _ _ (by simp)]
    by_cases h : l = []
    · subst h; simp [comma, split1_nil, emit, trim, trimL, trimR]
    · have h0 : 0 < l.length := List.length_pos_iff.2 h
      rw [split1_step l h, List.nil_append]
      split
      · rw [ih _ (by rw [List.length_drop]; omega) _ rfl]
      · rw [List.drop_eq_nil_of_le (by omega), split1_nil]

end IH

/- Layer 1 in plain Lean: digits and numbers. No program in sight; no condition. -/
namespace IH

theorem all_bytes (p : UInt8 → Bool) (h : (List.range 256).all (fun n => p (UInt8.ofNat n)) = true) (c : UInt8) : p c = true := by
  have := List.all_eq_true.1 h c.toNat (List.mem_range.2 c.toNat_lt)
  simpa using this

def dig (c : UInt8) : Nat := if 48 ≤ c.toNat && c.toNat ≤ 57 then c.toNat - 48 else if 97 ≤ c.toNat && c.toNat ≤ 102 then c.toNat - 87 else if 65 ≤ c.toNat && c.toNat ≤ 70 then c.toNat - 55 else 99
def badDig (base : Nat) (l : List UInt8) : Bool := l.any fun c => decide (base ≤ dig c)
def accN (base : Nat) (most : Int) : Int → List UInt8 → Option Int
  | n, [] => some n
  | n, c :: r => if (dig c : Int) > most ∨ n > (most - dig c) / base then none else accN base most (n * base + dig c) r
def accR : Option Int → Int × Int
  | none => (0, 12)
  | some n => (n, 0)
def numR (base : Nat) (most : Int) (l : List UInt8) : Int × Int :=
  if l = [] then (0, 10) else if badDig base l then (0, 10) else if most < 0 then (0, 12) else accR (accN base most 0 l)

def digitsL : List UInt8 := [48, 49, 50, 51, 52, 53, 54, 55, 56, 57, 97, 98, 99, 100, 101, 102]
/-- Where an octet, in small letters, stands among the digits to a base; -1: nowhere. -/
def digIx (base : Nat) (c : UInt8) : Int := if dig c < base then (dig c : Int) else -1

theorem accN_snoc (base : Nat) (most n : Int) (l : List UInt8) (c : UInt8) : accN base most n (l ++ [c]) =
    match accN base most n l with
    | none => none
    | some m => if (dig c : Int) > most ∨ m > (most - dig c) / base then none else some (m * base + dig c) := by
  induction l generalizing n with
  | nil => simp [accN]
  | cons d l ih =>
    simp only [List.cons_append, accN]
    split
    · rfl
    · exact ih _
theorem accN_bound (base : Nat) (hb : 0 < base) (most n m : Int) (l : List UInt8) (h : accN base most n l = some m) (h0 : 0 ≤ n) (h1 : n ≤ most) : 0 ≤ m ∧ m ≤ most := by
  induction l generalizing n with
  | nil => simp [accN] at h; omega
  | cons d l ih =>
    simp only [accN] at h
    split at h
    · cases h
    · rename_i hc
      have hc1 : (dig d : Int) ≤ most := by omega
      have hc2 : n ≤ (most - dig d) / base := by omega
      have hp : (0 : Int) < base := by omega
      have h3 : n * base ≤ most - dig d := by
        have := Int.le_ediv_iff_mul_le hp |>.1 hc2
        exact this
      have h4 : 0 ≤ n * (base : Int) := Int.mul_nonneg h0 (by omega)
      exact ih _ h (by omega) (by omega)
theorem accN_none_more (base : Nat) (most n : Int) (a b : List UInt8) (h : accN base most n a = none) : accN base most n (a ++ b) = none := by
  induction a generalizing n with
  | nil => simp [accN] at h
  | cons d a ih =>
    simp only [List.cons_append, accN] at *
    split
    · rfl
    · rename_i hc
      rw [if_neg hc] at h
      exact ih _ h
theorem badDig_append (base : Nat) (a b : List UInt8) : badDig base (a ++ b) = (badDig base a || badDig base b) := by simp [badDig]

/-- A number's digits. -/
def digC (d : Nat) : UInt8 := if d < 10 then UInt8.ofNat (48 + d) else UInt8.ofNat (87 + d)
def digs (base : Nat) : Nat → Nat → List UInt8
  | 0, _ => []
  | f + 1, n => if n < base then [digC n] else digs base f (n / base) ++ [digC (n % base)]
def baseOf (b : Int) : Nat := if b = 16 then 16 else 10
def printN (n : Int) (base : Int) : List UInt8 := digs (baseOf base) 64 n.toNat

theorem digs_more (base : Nat) (hb : 2 ≤ base) (f g n : Nat) (hf : n < 2 ^ f) (hg : n < 2 ^ g) (hf0 : 0 < f) (hg0 : 0 < g) : digs base f n = digs base g n := by
  induction f generalizing g n with
  | zero => omega
  | succ f ih =>
    cases g with
    | zero => omega
    | succ g =>
      unfold digs
      split
      · rfl
      · rename_i h
        have h1 : n / base ≤ n / 2 := Nat.div_le_div_left hb (by omega)
        have h2 : n / 2 < 2 ^ f := by rw [Nat.pow_succ] at hf; omega
        have h3 : n / 2 < 2 ^ g := by rw [Nat.pow_succ] at hg; omega
        have h4 : 0 < n / base := Nat.div_pos (by omega) (by omega)
        have hf1 : 0 < f := by
          rcases Nat.eq_zero_or_pos f with h | h
          · subst h; simp at h2; omega
          · exact h
        have hg1 : 0 < g := by
          rcases Nat.eq_zero_or_pos g with h | h
          · subst h; simp at h3; omega
          · exact h
        rw [ih g (n / base) (by omega) (by omega) hf1 hg1]
theorem digs_step (base : Nat) (hb : 2 ≤ base) (n : Nat) (hn : n < 2 ^ 63) (h : base ≤ n) : digs base 64 n = digs base 64 (n / base) ++ [digC (n % base)] := by
  conv => lhs; unfold digs
  rw [if_neg (by omega)]
  have h1 : n / base ≤ n / 2 := Nat.div_le_div_left hb (by omega)
  rw [digs_more base hb 63 64 (n / base) (by omega) (by omega) (by omega) (by omega)]
theorem digs_small (base n : Nat) (h : n < base) : digs base 64 n = [digC n] := by unfold digs; rw [if_pos h]
theorem digs_ne (base f n : Nat) (hf : 0 < f) : digs base f n ≠ [] := by
  cases f with
  | zero => omega
  | succ f => unfold digs; split <;> simp
theorem digs_length (base : Nat) (f n : Nat) : (digs base f n).length ≤ f := by
  induction f generalizing n with
  | zero => simp [digs]
  | succ f ih =>
    unfold digs
    split
    · simp
    · have := ih (n / base); simp; omega

theorem dig_digC (d : Nat) (h : d < 16) : dig (digC d) = d := by
  have : ∀ d, d < 16 → dig (digC d) = d := by decide
  exact this d h
theorem badDig_digs (base : Nat) (hb : 2 ≤ base) (hb' : base ≤ 16) (f n : Nat) : badDig base (digs base f n) = false := by
  have one : ∀ d, d < base → badDig base [digC d] = false := by
    intro d hd
    simp [badDig, dig_digC d (by omega)]; exact hd
  induction f generalizing n with
  | zero => rfl
  | succ f ih =>
    unfold digs
    split
    · rename_i h; exact one n h
    · rw [badDig_append, ih, one _ (Nat.mod_lt _ (by omega))]; rfl
theorem accN_digs (base : Nat) (hb : 2 ≤ base) (hb' : base ≤ 16) (most : Int) (f n : Nat) (hf : n < 2 ^ f) (hm : (n : Int) ≤ most) (hf0 : 0 < f) : accN base most 0 (digs base f n) = some (n : Int) := by
  have hp : (0 : Int) < base := by omega
  induction f generalizing n with
  | zero => omega
  | succ f ih =>
    unfold digs
    split
    · rename_i h
      simp only [accN, dig_digC n (by omega)]
      have : (0 : Int) ≤ (most - n) / base := Int.ediv_nonneg (by omega) (by omega)
      rw [if_neg (by omega)]
      simp
    · rename_i h
      have h1 : n / base ≤ n / 2 := Nat.div_le_div_left hb (by omega)
      have h2 : n / 2 < 2 ^ f := by rw [Nat.pow_succ] at hf; omega
      have h4 : 0 < n / base := Nat.div_pos (by omega) (by omega)
      have hf1 : 0 < f := by
        rcases Nat.eq_zero_or_pos f with h | h
        · subst h; simp at h2; omega
        · exact h
      have hmod : n % base < base := Nat.mod_lt _ (by omega)
      have hdm := Nat.div_add_mod n base
      have hle : n / base ≤ n := Nat.div_le_self _ _
      rw [accN_snoc, ih (n / base) (by omega) (by omega) hf1]
      simp only [dig_digC (n % base) (by omega)]
      have h5 : ((n / base : Nat) : Int) ≤ (most - (n % base : Nat)) / base := by
        rw [Int.le_ediv_iff_mul_le hp]
        have : ((n / base : Nat) : Int) * (base : Int) + ((n % base : Nat) : Int) = n := by
          have : (n / base) * base + n % base = n := by rw [Nat.mul_comm]; exact hdm
          omega
        omega
      have h6 : ((n % base : Nat) : Int) ≤ most := by have := Nat.mod_le n base; omega
      rw [if_neg (by omega)]
      congr 1
      have : (n / base) * base + n % base = n := by rw [Nat.mul_comm]; exact hdm
      omega

/-- A number's own digits say it. -/
theorem numR_print (base : Nat) (hb : base = 10 ∨ base = 16) (n : Nat) (hn : n < 2 ^ 63) : numR base 9223372036854775807 (digs base 64 n) = ((n : Int), 0) := by
  have h1 := digs_ne base 64 n (by omega)
  have h2 := badDig_digs base (by omega) (by omega) 64 n
  have h3 := accN_digs base (by omega) (by omega) 9223372036854775807 64 n (by omega) (by omega) (by omega)
  unfold numR
  rw [if_neg h1, h2, h3]
  simp [accR]
end IH

/- Layer 1 in plain Lean: quoted texts. No program in sight; no condition. -/
namespace IH

/-- What a quoted text says from a place on, how long it is, the error's number. -/
def unqF : List UInt8 → Nat → List UInt8 → List UInt8 × Int × Int
  | _, _, [] => ([], 0, 10)
  | acc, k, c :: r =>
    if c = 34 then (acc, (k : Int) + 1, 0)
    else if c = 92 then
      match r with
      | [] => ([], 0, 10)
      | d :: r' => if isPlain d then unqF (acc ++ [d]) (k + 2) r' else ([], 0, 10)
    else if isPlain c then unqF (acc ++ [c]) (k + 1) r else ([], 0, 10)
def unquote (l : List UInt8) : List UInt8 × Int × Int :=
  match l with
  | [] => ([], 0, 10)
  | c :: r => if c = 34 then unqF [] 1 r else ([], 0, 10)

theorem unqF_nil (acc : List UInt8) (k : Nat) : unqF acc k [] = ([], 0, 10) := by unfold unqF; rfl
theorem unqF_end (acc : List UInt8) (k : Nat) (r : List UInt8) : unqF acc k (34 :: r) = (acc, (k : Int) + 1, 0) := by unfold unqF; simp
theorem unqF_esc_nil (acc : List UInt8) (k : Nat) : unqF acc k [92] = ([], 0, 10) := by unfold unqF; simp
theorem unqF_esc (acc : List UInt8) (k : Nat) (d : UInt8) (r : List UInt8) : unqF acc k (92 :: d :: r) = if isPlain d then unqF (acc ++ [d]) (k + 2) r else ([], 0, 10) := by
  conv => lhs; unfold unqF
  simp
theorem unqF_plain (acc : List UInt8) (k : Nat) (c : UInt8) (r : List UInt8) (h1 : c ≠ 34) (h2 : c ≠ 92) : unqF acc k (c :: r) = if isPlain c then unqF (acc ++ [c]) (k + 1) r else ([], 0, 10) := by
  conv => lhs; unfold unqF
  simp [h1, h2]
end IH

/- Layer 1 in plain Lean: what is trimmed stays so, small letters, tokens are values. No program in sight; no condition. -/
namespace IH

theorem trimL_idem (l : List UInt8) : trimL (trimL l) = trimL l := by
  induction l with
  | nil => rfl
  | cons c l ih =>
    by_cases h : isBlank c = true
    · rw [trimL_blank h, ih]
    · have h' : isBlank c = false := by simpa using h
      rw [trimL_head h', trimL_head h']
theorem trimR_idem (l : List UInt8) : trimR (trimR l) = trimR l := by
  unfold trimR
  rw [List.reverse_reverse, trimL_idem]
theorem trim_idem (l : List UInt8) : trim (trim l) = trim l := by
  unfold trim
  rw [trim_comm, trimL_idem, trimR_idem]
theorem trimL_allBlank {b : List UInt8} (h : ∀ c ∈ b, isBlank c = true) (l : List UInt8) : trimL (b ++ l) = trimL l := by
  induction b with
  | nil => rfl
  | cons c b ih =>
    rw [List.cons_append, trimL_blank (h c (by simp)), ih fun x hx => h x (by simp [hx])]
theorem trimR_allBlank {b : List UInt8} (h : ∀ c ∈ b, isBlank c = true) (l : List UInt8) : trimR (l ++ b) = trimR l := by
  unfold trimR
  rw [List.reverse_append, trimL_allBlank fun c hc => h c (List.mem_reverse.1 hc)]
theorem trimL_nil_all {b : List UInt8} (h : trimL b = []) : ∀ c ∈ b, isBlank c = true := by
  induction b with
  | nil => simp
  | cons c b ih =>
    by_cases hc : isBlank c = true
    · rw [trimL_blank hc] at h
      intro x hx
      rcases List.mem_cons.1 hx with rfl | hx
      · exact hc
      · exact ih h x hx
    · have h' : isBlank c = false := by simpa using hc
      rw [trimL_head h'] at h
      cases h
theorem trim_nil_all {b : List UInt8} (h : trim b = []) : ∀ c ∈ b, isBlank c = true := by
  unfold trim at h
  have h1 := trimL_nil_all h
  have h2 : trimR b = [] := by
    rcases List.eq_nil_or_concat (trimR b) with h | ⟨m, d, h3⟩
    · exact h
    · exfalso
      rw [List.concat_eq_append] at h3
      have h4 := trimR_idem b
      rw [h3] at h4
      have h5 := h1 d (by rw [h3]; simp)
      rw [trimR_blank h5] at h4
      have h6 := congrArg List.length h4
      have h7 := trimR_length m
      simp at h6
      omega
  unfold trimR at h2
  intro c hc
  exact trimL_nil_all (List.reverse_eq_nil_iff.1 h2) c (List.mem_reverse.2 hc)
theorem trim_around {b : List UInt8} (h : trim b = []) (l : List UInt8) : trim (b ++ l ++ b) = trim l := by
  have hb := trim_nil_all h
  unfold trim
  rw [trimR_allBlank hb, ← trim_comm, trimL_allBlank hb, trim_comm]
theorem lowerC_idem (c : UInt8) : lowerC (lowerC c) = lowerC c := by
  have := all_bytes (fun c => lowerC (lowerC c) == lowerC c) (by decide +kernel) c
  exact eq_of_beq this
theorem lower_idem (l : List UInt8) : lower (lower l) = lower l := by
  unfold lower
  rw [List.map_map]
  apply List.map_congr_left
  intro c _
  exact lowerC_idem c
theorem lower_length (l : List UInt8) : (lower l).length = l.length := by simp [lower]
theorem tchar_plain (c : UInt8) (h : isTchar c = true) : isPlain c = true ∧ isBlank c = false ∧ isTchar (lowerC c) = true := by
  have := all_bytes (fun c => !isTchar c || (isPlain c && !isBlank c && isTchar (lowerC c))) (by decide +kernel) c
  simp [h] at this
  exact ⟨this.1.1, this.1.2, this.2⟩
theorem token_value (l : List UInt8) (h : token l = true) : value l = true ∧ token (lower l) = true := by
  simp only [token, Bool.and_eq_true, Bool.not_eq_true', allOf, List.all_eq_true, List.isEmpty_eq_false_iff] at h
  obtain ⟨h0, h1⟩ := h
  constructor
  · simp only [value, Bool.and_eq_true, allOf, List.all_eq_true, beq_iff_eq]
    refine ⟨fun c hc => (tchar_plain c (h1 c hc)).1, trim_self.2 ⟨fun c hc => ?_, fun c hc => ?_⟩⟩
    · exact (tchar_plain c (h1 c (List.mem_of_head? hc))).2.1
    · exact (tchar_plain c (h1 c (List.mem_of_getLast? hc))).2.1
  · simp only [token, Bool.and_eq_true, Bool.not_eq_true', allOf, List.all_eq_true, List.isEmpty_eq_false_iff]
    refine ⟨by simpa [lower] using h0, fun c hc => ?_⟩
    obtain ⟨d, hd, rfl⟩ := List.mem_map.1 hc
    exact (tchar_plain d (h1 d hd)).2.2
end IH

/- Layer 27 in plain Lean: octets between quotation marks. No program in sight; no condition. -/
namespace IH

def isPlain27 (c : UInt8) : Bool := 32 ≤ c.toNat && c.toNat ≤ 126 && !(c.toNat == 34) && !(c.toNat == 92)
/-- An octet, as it stands between quotation marks. -/
def code (c : UInt8) : List UInt8 :=
  if isPlain27 c then [c] else if c.toNat = 13 then [92, 114] else if c.toNat = 10 then [92, 110] else if c.toNat = 34 ∨ c.toNat = 92 then [92, c]
  else [92, 120, digC (c.toNat / 16), digC (c.toNat % 16)]
def quote27 (b : List UInt8) : List UInt8 := 34 :: (b.flatMap code ++ [34])

/-- The octet whose code a text begins with. -/
def octOf (l : List UInt8) : Option UInt8 := ((List.range 256).map UInt8.ofNat).find? fun c => (code c).isPrefixOf l

theorem code_ne (c : UInt8) : code c ≠ [] := by unfold code; split; simp; split; simp; split; simp; split <;> simp
theorem code_length (c : UInt8) : 1 ≤ (code c).length ∧ (code c).length ≤ 4 := by unfold code; split; simp; split; simp; split; simp; split <;> simp
/-- No code begins with another's. -/
theorem code_free : ((List.range 256).all fun c => (List.range 256).all fun d => c == d || !((code (UInt8.ofNat c)).isPrefixOf (code (UInt8.ofNat d)))) = true := by decide +kernel
theorem code_prefix {c d : UInt8} (h : code c <+: code d) : c = d := by
  have h1 := List.all_eq_true.1 code_free c.toNat (List.mem_range.2 c.toNat_lt)
  have h2 := List.all_eq_true.1 h1 d.toNat (List.mem_range.2 d.toNat_lt)
  simp only [UInt8.ofNat_toNat, Bool.or_eq_true, beq_iff_eq, Bool.not_eq_true'] at h2
  rcases h2 with h2 | h2
  · exact UInt8.toNat_inj.1 h2
  · rw [List.isPrefixOf_iff_prefix.2 h] at h2
    cases h2
theorem code_one {c d : UInt8} {l : List UInt8} (hc : code c <+: l) (hd : code d <+: l) : c = d := by
  rcases Nat.le_total (code c).length (code d).length with h | h
  · exact code_prefix (List.prefix_of_prefix_length_le hc hd h)
  · exact (code_prefix (List.prefix_of_prefix_length_le hd hc h)).symm
theorem mem_bytes (c : UInt8) : c ∈ (List.range 256).map UInt8.ofNat := List.mem_map.2 ⟨c.toNat, List.mem_range.2 c.toNat_lt, by simp⟩
theorem octOf_some {l : List UInt8} {c : UInt8} : octOf l = some c ↔ code c <+: l := by
  constructor
  · intro h
    exact List.isPrefixOf_iff_prefix.1 (List.find?_some (p := fun c => (code c).isPrefixOf l) h)
  · intro h
    cases hf : octOf l with
    | none =>
      have := List.find?_eq_none.1 hf c (mem_bytes c)
      rw [List.isPrefixOf_iff_prefix.2 h] at this
      simp at this
    | some d => rw [code_one (List.isPrefixOf_iff_prefix.1 (List.find?_some (p := fun c => (code c).isPrefixOf l) hf)) h]
theorem octOf_none {l : List UInt8} : octOf l = none ↔ ∀ c, ¬ code c <+: l := by
  constructor
  · intro h c hc
    rw [octOf_some.2 hc] at h; cases h
  · intro h
    cases hf : octOf l with
    | none => rfl
    | some d => exact absurd (octOf_some.1 hf) (h d)

/-- What octets between quotation marks say, from a place on: the octets, how long, the error. -/
def unq27 : Nat → List UInt8 → Nat → List UInt8 → List UInt8 × Int × Int
  | 0, _, _, _ => ([], 0, 10)
  | f + 1, acc, k, l =>
    match l with
    | [] => ([], 0, 10)
    | c :: _ =>
      if c = 34 then (acc, (k : Int) + 1, 0)
      else match octOf l with
        | none => ([], 0, 10)
        | some d => unq27 f (acc ++ [d]) (k + (code d).length) (l.drop (code d).length)
def unquote27 (l : List UInt8) : List UInt8 × Int × Int :=
  match l with
  | [] => ([], 0, 10)
  | c :: r => if c = 34 then unq27 (r.length + 1) [] 1 r else ([], 0, 10)

theorem unq27_more (f g : Nat) (acc : List UInt8) (k : Nat) (l : List UInt8) (hf : l.length < f) (hg : l.length < g) : unq27 f acc k l = unq27 g acc k l := by
  induction f generalizing g acc k l with
  | zero => omega
  | succ f ih =>
    cases g with
    | zero => omega
    | succ g =>
      unfold unq27
      cases l with
      | nil => rfl
      | cons c r =>
        simp only
        split
        · rfl
        · cases h : octOf (c :: r) with
          | none => rfl
          | some d =>
            have h1 := code_length d
            have h2 := (octOf_some.1 h).length_le
            simp only [List.length_cons] at hf hg h2
            exact ih g _ _ _ (by rw [List.length_drop, List.length_cons]; omega) (by rw [List.length_drop, List.length_cons]; omega)
/-- One step. -/
theorem unq27_step (acc : List UInt8) (k : Nat) (c : UInt8) (r : List UInt8) : unq27 (r.length + 2) acc k (c :: r) =
    if c = 34 then (acc, (k : Int) + 1, 0)
    else match octOf (c :: r) with
      | none => ([], 0, 10)
      | some d => unq27 (((c :: r).drop (code d).length).length + 1) (acc ++ [d]) (k + (code d).length) ((c :: r).drop (code d).length) := by
  conv => lhs; unfold unq27
  simp only
  split
  · rfl
  · cases h : octOf (c :: r) with
    | none => rfl
    | some d =>
      have h1 := code_length d
      have h2 := (octOf_some.1 h).length_le
      simp only [List.length_cons] at h2
      exact unq27_more _ _ _ _ _ (by rw [List.length_drop, List.length_cons]; omega) (Nat.lt_succ_self _)

theorem code_head (c : UInt8) : (code c).head? ≠ some 34 := by
  have := all_bytes (fun c => !((code c).head? == some 34)) (by decide +kernel) c
  intro h
  rw [h] at this
  simp at this
/-- What was quoted says itself, whatever stands behind. -/
theorem unq27_quote (b acc : List UInt8) (k : Nat) (s : List UInt8) : unq27 ((b.flatMap code ++ 34 :: s).length + 1) acc k (b.flatMap code ++ 34 :: s) = (acc ++ b, (k : Int) + (b.flatMap code).length + 1, 0) := by
  induction b generalizing acc k with
  | nil => unfold unq27; simp
  | cons d b ih =>
    have h0 := code_ne d
    obtain ⟨c, r, hcr⟩ : ∃ c r, code d = c :: r := List.exists_cons_of_ne_nil h0
    have hc : c ≠ 34 := by
      have := code_head d
      rw [hcr] at this
      simpa using this
    have hl : (d :: b).flatMap code ++ 34 :: s = c :: (r ++ (b.flatMap code ++ 34 :: s)) := by
      rw [List.flatMap_cons, hcr]; simp
    have ho : octOf (c :: (r ++ (b.flatMap code ++ 34 :: s))) = some d := by
      rw [octOf_some, hcr]
      exact ⟨b.flatMap code ++ 34 :: s, by simp⟩
    have hd : (c :: (r ++ (b.flatMap code ++ 34 :: s))).drop (code d).length = b.flatMap code ++ 34 :: s := by
      rw [hcr, ← List.cons_append, List.drop_left' rfl]
    rw [hl, List.length_cons, unq27_step, if_neg hc, ho]
    simp only [hd]
    rw [ih]
    simp only [List.flatMap_cons, List.length_append, List.append_assoc, List.singleton_append]
    congr 2
    omega
theorem unquote27_quote (b s : List UInt8) : unquote27 (quote27 b ++ s) = (b, ((quote27 b).length : Int), 0) := by
  have h := unq27_quote b [] 1 s
  unfold unquote27 quote27
  simp only [List.cons_append, List.append_assoc, if_true, List.nil_append]
  rw [h]
  simp
  omega

def escOf (b : UInt8) : UInt8 := if b = 114 then 13 else if b = 110 then 10 else if b = 34 ∨ b = 92 then b else 0
/-- The code's way to the octet: by the text's first octets, held against the code. -/
def octP (l : List UInt8) : Option UInt8 :=
  match l with
  | [] => none
  | a :: r =>
    if isPlain27 a then some a
    else if a ≠ 92 then none
    else match r with
      | [] => none
      | b :: t =>
        if b = 120 then
          (if l.length < 4 then none else if (numR 16 255 (t.take 2)).2 ≠ 0 then none else
            if code (UInt8.ofNat (numR 16 255 (t.take 2)).1.toNat) = l.take 4 then some (UInt8.ofNat (numR 16 255 (t.take 2)).1.toNat) else none)
        else
          if code (escOf b) = l.take 2 then some (escOf b) else none

theorem octP_sound {l : List UInt8} {c : UInt8} (h : octP l = some c) : code c <+: l := by
  unfold octP at h
  cases l with
  | nil => cases h
  | cons a r =>
    simp only at h
    split at h
    · rename_i hp
      injection h with h
      subst h
      unfold code
      rw [if_pos hp]
      exact ⟨r, rfl⟩
    · split at h
      · cases h
      · cases r with
        | nil => cases h
        | cons b t =>
          simp only at h
          split at h
          · split at h
            · cases h
            · split at h
              · cases h
              · split at h
                · rename_i he
                  injection h with h
                  rw [← h, he]
                  exact List.take_prefix _ _
                · cases h
          · split at h
            · rename_i he
              injection h with h
              rw [← h, he]
              exact List.take_prefix _ _
            · cases h
theorem hex_back (c : UInt8) : numR 16 255 [digC (c.toNat / 16), digC (c.toNat % 16)] = ((c.toNat : Int), 0) := by
  have := all_bytes (fun c => decide (numR 16 255 [digC (c.toNat / 16), digC (c.toNat % 16)] = ((c.toNat : Int), 0))) (by decide +kernel) c
  exact of_decide_eq_true this
theorem octP_complete {l : List UInt8} {c : UInt8} (h : code c <+: l) : octP l = some c := by
  obtain ⟨t, rfl⟩ := h
  by_cases h1 : isPlain27 c = true
  · have e : code c = [c] := by unfold code; rw [if_pos h1]
    rw [e]
    simp [octP, h1]
  · have n92 : isPlain27 92 = false := by decide
    by_cases h13 : c.toNat = 13
    · have ec : c = 13 := UInt8.toNat_inj.1 h13
      subst ec
      have e : code 13 = [92, 114] := by decide
      rw [e]
      simp [octP, n92, e, escOf]
    · by_cases h10 : c.toNat = 10
      · have ec : c = 10 := UInt8.toNat_inj.1 h10
        subst ec
        have e : code 10 = [92, 110] := by decide
        rw [e]
        simp [octP, n92, e, escOf]
      · by_cases h34 : c.toNat = 34 ∨ c.toNat = 92
        · rcases h34 with h34 | h34
          · have ec : c = 34 := UInt8.toNat_inj.1 h34
            subst ec
            have e : code 34 = [92, 34] := by decide
            rw [e]
            simp [octP, n92, e, escOf]
          · have ec : c = 92 := UInt8.toNat_inj.1 h34
            subst ec
            have e : code 92 = [92, 92] := by decide
            rw [e]
            simp [octP, n92, e, escOf]
        · have e : code c = [92, 120, digC (c.toNat / 16), digC (c.toNat % 16)] := by
            unfold code
            rw [if_neg h1, if_neg h13, if_neg h10, if_neg h34]
          rw [e]
          have hb := hex_back c
          simp [octP, n92, hb, e]
theorem octP_eq (l : List UInt8) : octP l = octOf l := by
  cases h : octOf l with
  | none =>
    cases h2 : octP l with
    | none => rfl
    | some c => exact absurd (octP_sound h2) (octOf_none.1 h c)
  | some c => exact octP_complete (octOf_some.1 h)
end IH

/- Layer 27 in plain Lean: deeds, their lines, lines read. No program in sight; no condition. -/
namespace IH
set_option maxRecDepth 100000

def inI (n : Int) : Prop := -9223372036854775808 ≤ n ∧ n ≤ 9223372036854775807
instance (n : Int) : Decidable (inI n) := by unfold inI; exact inferInstance
/-- A number's text. -/
def numL (n : Int) : List UInt8 := if n < 0 then 45 :: digs 10 64 (-n).toNat else digs 10 64 n.toNat
def valN (l : List UInt8) : Nat := l.foldl (fun n c => n * 10 + (c.toNat - 48)) 0
theorem valN_snoc (l : List UInt8) (c : UInt8) : valN (l ++ [c]) = valN l * 10 + (c.toNat - 48) := by simp [valN]
theorem digC_dec (n : Nat) (h : n < 10) : (digC n).toNat = 48 + n := by
  have := List.all_eq_true.1 (show ((List.range 10).all fun n => (digC n).toNat == 48 + n) = true by decide +kernel) n (List.mem_range.2 h)
  simpa using this
theorem val_digs (n : Nat) (hn : n ≤ 9223372036854775808) : valN (digs 10 64 n) = n := by
  rcases Nat.lt_or_ge n 9223372036854775808 with h | h
  · clear hn
    induction n using Nat.strongRecOn with
    | _ n ih =>
      rcases Nat.lt_or_ge n 10 with h10 | h10
      · rw [digs_small _ _ h10]
        simp [valN, digC_dec n h10]
      · rw [digs_step 10 (by omega) n (by omega) h10, valN_snoc, ih (n / 10) (by omega) (by omega), digC_dec _ (Nat.mod_lt _ (by omega))]
        omega
  · obtain rfl : n = 9223372036854775808 := by omega
    decide +kernel
theorem digs_dig (n : Nat) (hn : n ≤ 9223372036854775808) : ∀ c ∈ digs 10 64 n, 48 ≤ c.toNat ∧ c.toNat ≤ 57 := by
  rcases Nat.lt_or_ge n 9223372036854775808 with h | h
  · clear hn
    induction n using Nat.strongRecOn with
    | _ n ih =>
      intro c hc
      rcases Nat.lt_or_ge n 10 with h10 | h10
      · rw [digs_small _ _ h10, List.mem_singleton] at hc
        subst hc
        rw [digC_dec n h10]; omega
      · rw [digs_step 10 (by omega) n (by omega) h10, List.mem_append, List.mem_singleton] at hc
        rcases hc with hc | rfl
        · exact ih (n / 10) (by omega) (by omega) c hc
        · rw [digC_dec _ (Nat.mod_lt _ (by omega))]
          have := Nat.mod_lt n (show 0 < 10 by omega)
          omega
  · obtain rfl : n = 9223372036854775808 := by omega
    have h : ((digs 10 64 9223372036854775808).all fun c => decide (48 ≤ c.toNat ∧ c.toNat ≤ 57)) = true := by decide +kernel
    intro c hc
    simpa using List.all_eq_true.1 h c hc
def valI (s : List UInt8) : Int := match s with
  | [] => 0
  | c :: r => if c = 45 then -(valN r : Int) else valN (c :: r)
/-- The number of a text. -/
def numP (s : List UInt8) : Option Int := if inI (valI s) ∧ numL (valI s) = s then some (valI s) else none
theorem valI_num {n : Int} (h : inI n) : valI (numL n) = n := by
  unfold inI at h
  unfold numL
  by_cases hn : n < 0
  · rw [if_pos hn]
    simp only [valI, if_true]
    rw [val_digs _ (by omega)]; omega
  · rw [if_neg hn]
    have hv := val_digs n.toNat (by omega)
    have hd := digs_dig n.toNat (by omega)
    cases hl : digs 10 64 n.toNat with
    | nil => exact absurd hl (digs_ne _ _ _ (by omega))
    | cons c r =>
      rw [hl] at hv hd
      have hc : c ≠ 45 := by
        intro e; subst e
        have := (hd 45 (by simp)).1
        revert this; decide
      simp only [valI]
      rw [if_neg hc, hv]; omega
theorem numP_some {s : List UInt8} {n : Int} : numP s = some n ↔ inI n ∧ numL n = s := by
  unfold numP
  constructor
  · intro h
    split at h
    · rename_i hc
      simp only [Option.some.injEq] at h
      subst h
      exact hc
    · cases h
  · rintro ⟨h1, rfl⟩
    rw [valI_num h1, if_pos ⟨h1, rfl⟩]
theorem numP_num {n : Int} (h : inI n) : numP (numL n) = some n := numP_some.2 ⟨h, rfl⟩
/-- No blank, no mark. -/
def bare (l : List UInt8) : Prop := ∀ c ∈ l, c ≠ 32 ∧ c ≠ 34 ∧ c ≠ 92
theorem num_bare {n : Int} (h : inI n) : bare (numL n) := by
  unfold inI at h
  intro c hc
  have key : ∀ m : Nat, m ≤ 9223372036854775808 → c ∈ digs 10 64 m → c ≠ 32 ∧ c ≠ 34 ∧ c ≠ 92 := fun m hm hc => by
    have := digs_dig m hm c hc
    refine ⟨?_, ?_, ?_⟩ <;> (intro e; subst e; revert this; decide)
  unfold numL at hc
  split at hc
  · rcases List.mem_cons.1 hc with rfl | hc
    · decide
    · exact key _ (by omega) hc
  · exact key _ (by omega) hc

/-- What a crash keeps. -/
def keepL (l : List Bool) : List UInt8 := if l = [] then [45] else l.map fun b => if b then 49 else 48
def keepP (s : List UInt8) : Option (List Bool) := if s = [45] then some [] else if s ≠ [] ∧ s.all (fun c => c == 48 || c == 49) = true then some (s.map (· == 49)) else none
theorem keepP_some {s : List UInt8} {l : List Bool} : keepP s = some l ↔ keepL l = s := by
  unfold keepP keepL
  constructor
  · intro h
    split at h
    · rename_i h1
      simp only [Option.some.injEq] at h
      subst h; simp [h1]
    · split at h
      · rename_i h1 h2
        simp only [Option.some.injEq] at h
        subst h
        rw [if_neg (by simpa using h2.1), List.map_map]
        conv => rhs; rw [← List.map_id s]
        apply List.map_congr_left
        intro c hc
        have := List.all_eq_true.1 h2.2 c hc
        simp only [Bool.or_eq_true, beq_iff_eq] at this
        rcases this with rfl | rfl <;> decide
      · cases h
  · rintro rfl
    by_cases h : l = []
    · simp [h]
    · rw [if_neg h]
      rw [if_neg, if_pos]
      · simp only [List.map_map, Option.some.injEq]
        conv => rhs; rw [← List.map_id l]
        apply List.map_congr_left
        intro b _
        cases b <;> decide
      · refine ⟨by simpa using h, ?_⟩
        rw [List.all_eq_true]
        intro c hc
        obtain ⟨b, _, rfl⟩ := List.mem_map.1 hc
        cases b <;> decide
      · intro e
        cases l with
        | nil => exact h rfl
        | cons b l =>
          simp only [List.map_cons, List.cons.injEq] at e
          cases b <;> simp at e
theorem keep_bare (l : List Bool) : bare (keepL l) := by
  intro c hc
  unfold keepL at hc
  split at hc
  · rw [List.mem_singleton] at hc; subst hc; decide
  · obtain ⟨b, _, rfl⟩ := List.mem_map.1 hc
    cases b <;> decide

/-- What quotation marks say is what was quoted. -/
theorem unq27_inv : ∀ (f : Nat) (acc : List UInt8) (k : Nat) (l b : List UInt8) (n : Int), unq27 f acc k l = (b, n, 0) →
    ∃ x r, b = acc ++ x ∧ l = x.flatMap code ++ 34 :: r ∧ n = (k : Int) + (x.flatMap code).length + 1 := by
  intro f
  induction f with
  | zero => intro acc k l b n h; simp [unq27] at h
  | succ f ih =>
    intro acc k l b n h
    unfold unq27 at h
    cases l with
    | nil => simp at h
    | cons c r =>
      simp only at h
      split at h
      · rename_i hc
        simp only [Prod.mk.injEq] at h
        obtain ⟨rfl, rfl, _⟩ := h
        exact ⟨[], r, by simp, by simp [hc], by simp⟩
      · cases ho : octOf (c :: r) with
        | none => rw [ho] at h; simp at h
        | some d =>
          rw [ho] at h
          obtain ⟨x, q, rfl, hl, rfl⟩ := ih _ _ _ _ _ h
          obtain ⟨t, ht⟩ := octOf_some.1 ho
          rw [← ht, List.drop_left' rfl] at hl
          refine ⟨d :: x, q, by simp, ?_, ?_⟩
          · rw [← ht, hl]; simp
          · simp; omega
theorem unquote27_inv {s b : List UInt8} {n : Int} (h : unquote27 s = (b, n, 0)) : ∃ r, s = quote27 b ++ r ∧ n = ((quote27 b).length : Int) := by
  unfold unquote27 at h
  cases s with
  | nil => simp at h
  | cons c r =>
    simp only at h
    split at h
    · rename_i hc
      obtain ⟨x, q, rfl, rfl, rfl⟩ := unq27_inv _ _ _ _ _ _ h
      refine ⟨q, by simp [quote27, hc], by simp [quote27]; omega⟩
    · simp at h

structure Deed where
  kind : Int
  conn : Int
  n : Int
  b : List UInt8
  calls : List Int
  keep : List Bool
  torn : Int
  part : Int
def Deed.of (k : Int) : Deed := ⟨k, 0, 0, [], [], [], 0, 0⟩
/-- What its line tells of a deed. -/
def clean (d : Deed) : Deed :=
  if d.kind = 1 ∨ d.kind = 2 then { Deed.of d.kind with conn := d.conn, b := d.b }
  else if d.kind = 3 ∨ d.kind = 4 then { Deed.of d.kind with conn := d.conn }
  else if d.kind = 5 then { Deed.of d.kind with conn := d.conn, n := d.n }
  else if d.kind = 6 ∨ d.kind = 8 then { Deed.of d.kind with n := d.n }
  else if d.kind = 7 then { Deed.of d.kind with calls := d.calls }
  else if d.kind = 9 then { Deed.of d.kind with n := d.n, keep := d.keep, torn := d.torn, part := d.part }
  else Deed.of d.kind
structure OkD (d : Deed) : Prop where
  k0 : 0 ≤ d.kind
  k1 : d.kind ≤ 10
  cl : clean d = d
  ic : inI d.conn
  iN : inI d.n
  it : inI d.torn
  ip : inI d.part
  ia : ∀ n ∈ d.calls, inI n
def nameK (k : Int) : List UInt8 :=
  if k = 0 then [111, 112, 101, 110] else if k = 1 then [99, 108, 105, 101, 110, 116] else if k = 2 then [111, 114, 105, 103, 105, 110] else if k = 3 then [104, 97, 110, 103]
  else if k = 4 then [113, 117, 105, 116] else if k = 5 then [112, 105, 99, 107] else if k = 6 then [116, 105, 99, 107] else if k = 7 then [102, 97, 105, 108]
  else if k = 8 then [108, 105, 109, 105, 116] else if k = 9 then [99, 114, 97, 115, 104] else [115, 121, 110, 99]
def tailD (d : Deed) : List UInt8 :=
  if d.kind = 1 ∨ d.kind = 2 then 32 :: (numL d.conn ++ 32 :: quote27 d.b)
  else if d.kind = 3 ∨ d.kind = 4 then 32 :: numL d.conn
  else if d.kind = 5 then 32 :: (numL d.conn ++ 32 :: numL d.n)
  else if d.kind = 6 ∨ d.kind = 8 then 32 :: numL d.n
  else if d.kind = 7 then d.calls.flatMap fun n => 32 :: numL n
  else if d.kind = 9 then 32 :: (numL d.n ++ 32 :: (keepL d.keep ++ 32 :: (numL d.torn ++ 32 :: numL d.part)))
  else []
def printD (d : Deed) : List UInt8 := nameK d.kind ++ tailD d

/-! A line read from the front. -/
def wordW (s : List UInt8) : List UInt8 := s.takeWhile (· != 32)
def restW (s : List UInt8) : List UInt8 := s.dropWhile (· != 32)
def kindOf (w : List UInt8) : Option Int := [0, 1, 2, 3, 4, 5, 6, 7, 8, 9, 10].find? fun k => nameK k == w
def tNum (r : List UInt8) : Option (Int × List UInt8) := match r with
  | [] => none
  | c :: s => if c = 32 then (numP (wordW s)).map fun n => (n, restW s) else none
def tKeep (r : List UInt8) : Option (List Bool × List UInt8) := match r with
  | [] => none
  | c :: s => if c = 32 then (keepP (wordW s)).map fun n => (n, restW s) else none
def tOct (r : List UInt8) : Option (List UInt8 × List UInt8) := match r with
  | [] => none
  | c :: s => if c = 32 then (if (unquote27 s).2.2 = 0 then some ((unquote27 s).1, s.drop (unquote27 s).2.1.toNat) else none) else none
def tAll : Nat → List UInt8 → Option (List Int)
  | 0, _ => none
  | f + 1, r => if r = [] then some [] else match tNum r with
    | none => none
    | some (n, r) => (tAll f r).map (n :: ·)
def shut {α : Type} (x : Option (α × List UInt8)) : Option α := match x with
  | none => none
  | some (a, r) => if r = [] then some a else none
def lineK (k : Int) (r : List UInt8) : Option Deed :=
  if k = 1 ∨ k = 2 then match tNum r with
    | none => none
    | some (c, r) => (shut (tOct r)).map fun b => { Deed.of k with conn := c, b := b }
  else if k = 3 ∨ k = 4 then (shut (tNum r)).map fun c => { Deed.of k with conn := c }
  else if k = 5 then match tNum r with
    | none => none
    | some (c, r) => (shut (tNum r)).map fun n => { Deed.of k with conn := c, n := n }
  else if k = 6 ∨ k = 8 then (shut (tNum r)).map fun n => { Deed.of k with n := n }
  else if k = 7 then (tAll (r.length + 1) r).map fun l => { Deed.of k with calls := l }
  else if k = 9 then match tNum r with
    | none => none
    | some (n, r) => match tKeep r with
      | none => none
      | some (l, r) => match tNum r with
        | none => none
        | some (t, r) => (shut (tNum r)).map fun p => { Deed.of k with n := n, keep := l, torn := t, part := p }
  else if r = [] then some (Deed.of k) else none
def lineD (s : List UInt8) : Option Deed := match kindOf (wordW s) with
  | none => none
  | some k => lineK k (restW s)

theorem word_rest (s : List UInt8) : wordW s ++ restW s = s := List.takeWhile_append_dropWhile
/-- Nothing, or a blank ahead. -/
def edge (r : List UInt8) : Prop := r = [] ∨ ∃ s, r = 32 :: s
theorem rest_edge (s : List UInt8) : edge (restW s) := by
  unfold restW edge
  induction s with
  | nil => exact .inl rfl
  | cons c s ih =>
    rw [List.dropWhile_cons]
    by_cases h : c = 32
    · right; exact ⟨s, by simp [h]⟩
    · simpa [h] using ih
theorem word_of {x r : List UInt8} (hx : bare x) (hr : edge r) : wordW (x ++ r) = x ∧ restW (x ++ r) = r := by
  unfold wordW restW
  induction x with
  | nil =>
    rcases hr with rfl | ⟨s, rfl⟩ <;> simp
  | cons c x ih =>
    have h1 := (hx c (by simp)).1
    have h2 := ih fun d hd => hx d (by simp [hd])
    simp [h1, h2.1, h2.2]
theorem name_bare (k : Int) : bare (nameK k) := by
  unfold nameK bare
  repeat' split
  all_goals decide
theorem kindOf_name {k : Int} (h0 : 0 ≤ k) (h1 : k ≤ 10) : kindOf (nameK k) = some k := by
  have : k = 0 ∨ k = 1 ∨ k = 2 ∨ k = 3 ∨ k = 4 ∨ k = 5 ∨ k = 6 ∨ k = 7 ∨ k = 8 ∨ k = 9 ∨ k = 10 := by omega
  rcases this with rfl | rfl | rfl | rfl | rfl | rfl | rfl | rfl | rfl | rfl | rfl <;> decide
theorem kindOf_inv {w : List UInt8} {k : Int} (h : kindOf w = some k) : 0 ≤ k ∧ k ≤ 10 ∧ nameK k = w := by
  have h1 := List.find?_some h
  have h2 := List.mem_of_find?_eq_some h
  simp only [List.mem_cons, List.not_mem_nil, or_false] at h2
  refine ⟨by omega, by omega, by simpa using h1⟩
theorem tNum_some {r r' : List UInt8} {n : Int} (h : tNum r = some (n, r')) : r = 32 :: (numL n ++ r') ∧ inI n ∧ edge r' := by
  unfold tNum at h
  cases r with
  | nil => cases h
  | cons c s =>
    simp only at h
    split at h
    · rename_i hc
      obtain ⟨m, hm, he⟩ := Option.map_eq_some_iff.1 h
      simp only [Prod.mk.injEq] at he
      obtain ⟨rfl, rfl⟩ := he
      obtain ⟨h1, h2⟩ := numP_some.1 hm
      exact ⟨by rw [h2, word_rest, hc], h1, rest_edge s⟩
    · cases h
theorem tNum_of {r : List UInt8} {n : Int} (hn : inI n) (hr : edge r) : tNum (32 :: (numL n ++ r)) = some (n, r) := by
  obtain ⟨h1, h2⟩ := word_of (num_bare hn) hr
  simp [tNum, h1, h2, numP_num hn]
theorem tNum_end {n : Int} (hn : inI n) : tNum (32 :: numL n) = some (n, []) := by
  have := tNum_of hn (r := []) (.inl rfl)
  simpa using this
theorem tKeep_some {r r' : List UInt8} {l : List Bool} (h : tKeep r = some (l, r')) : r = 32 :: (keepL l ++ r') ∧ edge r' := by
  unfold tKeep at h
  cases r with
  | nil => cases h
  | cons c s =>
    simp only at h
    split at h
    · rename_i hc
      obtain ⟨m, hm, he⟩ := Option.map_eq_some_iff.1 h
      simp only [Prod.mk.injEq] at he
      obtain ⟨rfl, rfl⟩ := he
      exact ⟨by rw [keepP_some.1 hm, word_rest, hc], rest_edge s⟩
    · cases h
theorem tKeep_of {r : List UInt8} {l : List Bool} (hr : edge r) : tKeep (32 :: (keepL l ++ r)) = some (l, r) := by
  obtain ⟨h1, h2⟩ := word_of (keep_bare l) hr
  simp [tKeep, h1, h2, keepP_some.2 rfl]
theorem tOct_some {r r' b : List UInt8} (h : tOct r = some (b, r')) : r = 32 :: (quote27 b ++ r') := by
  unfold tOct at h
  cases r with
  | nil => cases h
  | cons c s =>
    simp only at h
    split at h
    · rename_i hc
      split at h
      · rename_i he
        simp only [Option.some.injEq, Prod.mk.injEq] at h
        obtain ⟨rfl, rfl⟩ := h
        obtain ⟨q, h1, h2⟩ := unquote27_inv (s := s) (b := (unquote27 s).1) (n := (unquote27 s).2.1) (by rw [← he])
        rw [h2, Int.toNat_natCast]
        conv => lhs; rw [h1, hc]
        conv => rhs; rw [h1]
        rw [show (quote27 (unquote27 (quote27 (unquote27 s).1 ++ q)).1) = quote27 (unquote27 s).1 by rw [← h1], List.drop_left' rfl]
      · cases h
    · cases h
theorem tOct_of (b r : List UInt8) : tOct (32 :: (quote27 b ++ r)) = some (b, r) := by
  have h := unquote27_quote b r
  simp only [tOct, if_true, h, Int.toNat_natCast]
  rw [List.drop_left' rfl]
theorem shut_some {α : Type} {x : Option (α × List UInt8)} {a : α} (h : shut x = some a) : x = some (a, []) := by
  unfold shut at h
  cases x with
  | none => cases h
  | some p =>
    obtain ⟨b, r⟩ := p
    simp only at h
    split at h
    · rename_i hr
      simp only [Option.some.injEq] at h
      rw [h, hr]
    · cases h
theorem tAll_some : ∀ (f : Nat) (r : List UInt8) (l : List Int), tAll f r = some l → r = l.flatMap (fun n => 32 :: numL n) ∧ ∀ n ∈ l, inI n := by
  intro f
  induction f with
  | zero => intro r l h; cases h
  | succ f ih =>
    intro r l h
    unfold tAll at h
    split at h
    · rename_i hr
      simp only [Option.some.injEq] at h
      subst h hr
      exact ⟨rfl, by simp⟩
    · split at h
      · cases h
      · rename_i n r' ht
        obtain ⟨l', hl, rfl⟩ := Option.map_eq_some_iff.1 h
        obtain ⟨h1, h2, _⟩ := tNum_some ht
        obtain ⟨h3, h4⟩ := ih _ _ hl
        refine ⟨by rw [h1, h3]; simp, ?_⟩
        intro m hm
        rcases List.mem_cons.1 hm with rfl | hm
        · exact h2
        · exact h4 m hm
theorem tAll_of : ∀ (l : List Int) (f : Nat), (∀ n ∈ l, inI n) → (l.flatMap fun n => 32 :: numL n).length < f → tAll f (l.flatMap fun n => 32 :: numL n) = some l := by
  intro l
  induction l with
  | nil => intro f _ hf; cases f with
    | zero => simp at hf
    | succ f => rfl
  | cons n l ih =>
    intro f hi hf
    cases f with
    | zero => simp at hf
    | succ f =>
      have he : edge (l.flatMap fun n => 32 :: numL n) := by
        cases l with
        | nil => exact .inl rfl
        | cons m l => right; exact ⟨_, rfl⟩
      have h1 := tNum_of (hi n (by simp)) he
      have h2 : ((n :: l).flatMap fun n => 32 :: numL n) = 32 :: (numL n ++ l.flatMap fun n => 32 :: numL n) := by simp
      rw [h2] at hf ⊢
      unfold tAll
      rw [if_neg (by simp), h1]
      simp only
      rw [ih f (fun m hm => hi m (by simp [hm])) (by simp at hf ⊢; omega)]
      rfl
theorem lineK_sound {k : Int} {r : List UInt8} {d : Deed} (h0 : 0 ≤ k) (h1 : k ≤ 10) (h : lineK k r = some d) : d.kind = k ∧ OkD d ∧ tailD d = r := by
  have z : inI 0 := by decide
  unfold lineK at h
  split at h
  · rename_i hk
    split at h
    · cases h
    · rename_i c r' ht
      obtain ⟨b, hb, rfl⟩ := Option.map_eq_some_iff.1 h
      obtain ⟨e1, e2, _⟩ := tNum_some ht
      have e3 := tOct_some (shut_some hb)
      refine ⟨rfl, ⟨h0, h1, ?_, e2, z, z, z, by simp [Deed.of]⟩, ?_⟩
      · simp [clean, hk, Deed.of]
      · simp [tailD, hk, Deed.of, e1, e3]
  · split at h
    · rename_i hk1 hk
      obtain ⟨c, hc, rfl⟩ := Option.map_eq_some_iff.1 h
      obtain ⟨e1, e2, _⟩ := tNum_some (shut_some hc)
      refine ⟨rfl, ⟨h0, h1, ?_, e2, z, z, z, by simp [Deed.of]⟩, ?_⟩
      · simp [clean, hk1, hk, Deed.of]
      · simp [tailD, hk1, hk, Deed.of, e1]
    · split at h
      · rename_i hk1 hk2 hk
        split at h
        · cases h
        · rename_i c r' ht
          obtain ⟨n, hn, rfl⟩ := Option.map_eq_some_iff.1 h
          obtain ⟨e1, e2, _⟩ := tNum_some ht
          obtain ⟨e3, e4, _⟩ := tNum_some (shut_some hn)
          refine ⟨rfl, ⟨h0, h1, ?_, e2, e4, z, z, by simp [Deed.of]⟩, ?_⟩
          · simp [clean, hk, Deed.of]
          · simp [tailD, hk, Deed.of, e1, e3]
      · split at h
        · rename_i hk1 hk2 hk3 hk
          obtain ⟨n, hn, rfl⟩ := Option.map_eq_some_iff.1 h
          obtain ⟨e1, e2, _⟩ := tNum_some (shut_some hn)
          refine ⟨rfl, ⟨h0, h1, ?_, z, e2, z, z, by simp [Deed.of]⟩, ?_⟩
          · simp [clean, hk1, hk2, hk3, hk, Deed.of]
          · simp [tailD, hk1, hk2, hk3, hk, Deed.of, e1]
        · split at h
          · rename_i hk1 hk2 hk3 hk4 hk
            obtain ⟨l, hl, rfl⟩ := Option.map_eq_some_iff.1 h
            obtain ⟨e1, e2⟩ := tAll_some _ _ _ hl
            refine ⟨rfl, ⟨h0, h1, ?_, z, z, z, z, e2⟩, ?_⟩
            · simp [clean, hk, Deed.of]
            · simp [tailD, hk, Deed.of, ← e1]
          · split at h
            · rename_i hk1 hk2 hk3 hk4 hk5 hk
              split at h
              · cases h
              · rename_i n r1 ht1
                split at h
                · cases h
                · rename_i l r2 ht2
                  split at h
                  · cases h
                  · rename_i t r3 ht3
                    obtain ⟨p, hp, rfl⟩ := Option.map_eq_some_iff.1 h
                    obtain ⟨e1, e2, _⟩ := tNum_some ht1
                    obtain ⟨e3, _⟩ := tKeep_some ht2
                    obtain ⟨e4, e5, _⟩ := tNum_some ht3
                    obtain ⟨e6, e7, _⟩ := tNum_some (shut_some hp)
                    refine ⟨rfl, ⟨h0, h1, ?_, z, e2, e5, e7, by simp [Deed.of]⟩, ?_⟩
                    · simp [clean, hk, Deed.of]
                    · simp [tailD, hk, Deed.of, e1, e3, e4, e6]
            · rename_i hk1 hk2 hk3 hk4 hk5 hk6
              split at h
              · rename_i hr
                simp only [Option.some.injEq] at h
                subst h hr
                refine ⟨rfl, ⟨h0, h1, ?_, z, z, z, z, by simp [Deed.of]⟩, ?_⟩
                · simp [clean, hk1, hk2, hk3, hk4, hk5, hk6, Deed.of]
                · simp [tailD, hk1, hk2, hk3, hk4, hk5, hk6, Deed.of]
              · cases h
theorem lineK_of {d : Deed} (h : OkD d) : lineK d.kind (tailD d) = some d := by
  obtain ⟨h0, h1, hc, ic, iN, it, ip, ia⟩ := h
  obtain ⟨k, conn, n, b, calls, keep, torn, part⟩ := d
  simp only at *
  have hk : k = 0 ∨ k = 1 ∨ k = 2 ∨ k = 3 ∨ k = 4 ∨ k = 5 ∨ k = 6 ∨ k = 7 ∨ k = 8 ∨ k = 9 ∨ k = 10 := by omega
  have hq : tOct (32 :: quote27 b) = some (b, []) := by have := tOct_of b []; simpa using this
  rcases hk with rfl | rfl | rfl | rfl | rfl | rfl | rfl | rfl | rfl | rfl | rfl
  all_goals
    simp [clean, Deed.of] at hc
    try obtain ⟨rfl, rfl, rfl, rfl, rfl, rfl, rfl⟩ := hc
    try obtain ⟨rfl, rfl, rfl, rfl, rfl, rfl⟩ := hc
    try obtain ⟨rfl, rfl, rfl, rfl, rfl⟩ := hc
    try obtain ⟨rfl, rfl, rfl, rfl⟩ := hc
    try obtain ⟨rfl, rfl, rfl⟩ := hc
    simp [lineK, tailD, Deed.of]
  · rw [tNum_of ic (.inr ⟨_, rfl⟩)]; simp [hq, shut]
  · rw [tNum_of ic (.inr ⟨_, rfl⟩)]; simp [hq, shut]
  · simp [tNum_end ic, shut]
  · simp [tNum_end ic, shut]
  · rw [tNum_of ic (.inr ⟨_, rfl⟩)]; simp [tNum_end iN, shut]
  · simp [tNum_end iN, shut]
  · have := tAll_of calls _ ia (Nat.lt_succ_self _)
    simpa using this
  · simp [tNum_end iN, shut]
  · rw [tNum_of iN (.inr ⟨_, rfl⟩)]
    simp only
    rw [tKeep_of (.inr ⟨_, rfl⟩)]
    simp only
    rw [tNum_of it (.inr ⟨_, rfl⟩)]
    simp [tNum_end ip, shut]
theorem tail_edge (d : Deed) : edge (tailD d) := by
  unfold tailD edge
  repeat' split
  all_goals first
    | exact .inl rfl
    | exact .inr ⟨_, rfl⟩
    | (cases d.calls with
       | nil => exact .inl rfl
       | cons n l => exact .inr ⟨_, rfl⟩)
theorem lineD_sound {s : List UInt8} {d : Deed} (h : lineD s = some d) : OkD d ∧ printD d = s := by
  unfold lineD at h
  split at h
  · cases h
  · rename_i k hk
    obtain ⟨h0, h1, hn⟩ := kindOf_inv hk
    obtain ⟨e1, e2, e3⟩ := lineK_sound h0 h1 h
    refine ⟨e2, ?_⟩
    unfold printD
    rw [e1, e3, hn, word_rest]
theorem lineD_of {d : Deed} (h : OkD d) : lineD (printD d) = some d := by
  obtain ⟨h1, h2⟩ := word_of (name_bare d.kind) (tail_edge d)
  unfold lineD printD
  rw [h1, h2, kindOf_name h.k0 h.k1]
  exact lineK_of h
/-- A reader of lines that reads what lines say. -/
def ReadsD (f : List UInt8 → Option Deed) : Prop := (∀ d, OkD d → f (printD d) = some d) ∧ ∀ s d, f s = some d → OkD d ∧ printD d = s
theorem ReadsD.eq {f g : List UInt8 → Option Deed} (hf : ReadsD f) (hg : ReadsD g) (s : List UInt8) : f s = g s := by
  cases h : f s with
  | some d =>
    obtain ⟨h1, rfl⟩ := hf.2 s d h
    exact (hg.1 d h1).symm
  | none =>
    cases h' : g s with
    | none => rfl
    | some d =>
      obtain ⟨h1, rfl⟩ := hg.2 s d h'
      rw [hf.1 d h1] at h; cases h
theorem lineD_reads : ReadsD lineD := ⟨fun _ h => lineD_of h, fun _ _ h => lineD_sound h⟩
end IH

/- Layer 27 in plain Lean: the document's way with a line (words, cut at blanks outside of quotation marks); a script. No program in sight; no condition. -/
namespace IH
set_option maxRecDepth 100000

/-- Words, cut at each blank outside of quotation marks. -/
def wds : List UInt8 → Bool → List UInt8 → List (List UInt8)
  | cur, _, [] => [cur]
  | cur, ins, [c] => if c = 32 ∧ ins = false then [cur, []] else [cur ++ [c]]
  | cur, ins, c :: d :: r =>
    if c = 32 ∧ ins = false then cur :: wds [] false (d :: r)
    else if c = 34 then wds (cur ++ [c]) (!ins) (d :: r)
    else if c = 92 ∧ ins = true then wds (cur ++ [c, d]) ins r
    else wds (cur ++ [c]) ins (d :: r)
termination_by _ _ l => l.length
def wordsL (s : List UInt8) : List (List UInt8) := wds [] false s

theorem wds_blank (cur : List UInt8) (r : List UInt8) : wds cur false (32 :: r) = cur :: wds [] false r := by
  cases r with
  | nil => simp [wds]
  | cons d r => rw [wds]; simp
theorem wds_mark (cur : List UInt8) (ins : Bool) (r : List UInt8) : wds cur ins (34 :: r) = wds (cur ++ [34]) (!ins) r := by
  cases r with
  | nil => simp [wds]
  | cons d r => rw [wds]; simp
theorem wds_esc (cur : List UInt8) (d : UInt8) (r : List UInt8) : wds cur true (92 :: d :: r) = wds (cur ++ [92, d]) true r := by
  rw [wds]; simp
theorem wds_other (cur : List UInt8) (ins : Bool) (c : UInt8) (r : List UInt8) (h1 : ¬ (c = 32 ∧ ins = false)) (h2 : c ≠ 34) (h3 : ¬ (c = 92 ∧ ins = true)) : wds cur ins (c :: r) = wds (cur ++ [c]) ins r := by
  cases r with
  | nil =>
    have e1 : wds cur ins [c] = if c = 32 ∧ ins = false then [cur, []] else [cur ++ [c]] := by rw [wds]
    have e2 : wds (cur ++ [c]) ins [] = [cur ++ [c]] := by rw [wds]
    rw [e1, e2, if_neg h1]
  | cons d r => rw [wds, if_neg h1, if_neg h2, if_neg h3]
theorem wds_last (cur : List UInt8) : wds cur true [92] = [cur ++ [92]] := by rw [wds]; simp
theorem wds_join : ∀ (n : Nat) (s cur : List UInt8) (ins : Bool), s.length ≤ n → ∃ w ws, wds cur ins s = w :: ws ∧ cur ++ s = w ++ ws.flatMap (fun x => 32 :: x) := by
  intro n
  induction n with
  | zero =>
    intro s cur ins hs
    obtain rfl : s = [] := List.eq_nil_of_length_eq_zero (by omega)
    exact ⟨cur, [], by rw [wds], by simp⟩
  | succ n ih =>
    intro s cur ins hs
    cases s with
    | nil => exact ⟨cur, [], by rw [wds], by simp⟩
    | cons c r =>
      simp only [List.length_cons] at hs
      by_cases h1 : c = 32 ∧ ins = false
      · obtain ⟨rfl, rfl⟩ := h1
        obtain ⟨w, ws, e1, e2⟩ := ih r [] false (by omega)
        rw [List.nil_append] at e2
        exact ⟨cur, w :: ws, by rw [wds_blank, e1], by simp [e2]⟩
      · by_cases h2 : c = 34
        · subst h2
          obtain ⟨w, ws, e1, e2⟩ := ih r (cur ++ [34]) (!ins) (by omega)
          exact ⟨w, ws, by rw [wds_mark, e1], by rw [← e2]; simp⟩
        · by_cases h3 : c = 92 ∧ ins = true
          · obtain ⟨rfl, rfl⟩ := h3
            cases r with
            | nil => exact ⟨cur ++ [92], [], wds_last cur, by simp⟩
            | cons d r =>
              simp only [List.length_cons] at hs
              obtain ⟨w, ws, e1, e2⟩ := ih r (cur ++ [92, d]) true (by omega)
              exact ⟨w, ws, by rw [wds_esc, e1], by rw [← e2]; simp⟩
          · obtain ⟨w, ws, e1, e2⟩ := ih r (cur ++ [c]) ins (by omega)
            exact ⟨w, ws, by rw [wds_other cur ins c r h1 h2 h3, e1], by rw [← e2]; simp⟩
theorem words_join (s : List UInt8) : ∃ w ws, wordsL s = w :: ws ∧ s = w ++ ws.flatMap (fun x => 32 :: x) := by
  obtain ⟨w, ws, h1, h2⟩ := wds_join s.length s [] false (Nat.le_refl _)
  exact ⟨w, ws, h1, by simpa using h2⟩
theorem wds_bare (x : List UInt8) (hx : bare x) (cur r : List UInt8) : wds cur false (x ++ r) = wds (cur ++ x) false r := by
  induction x generalizing cur with
  | nil => simp
  | cons c x ih =>
    obtain ⟨h1, h2, h3⟩ := hx c (by simp)
    rw [List.cons_append, wds_other _ _ _ _ (by simp [h1]) h2 (by simp), ih (fun d hd => hx d (by simp [hd]))]
    simp
theorem dig_quiet (n : Nat) (h : n < 16) : digC n ≠ 34 ∧ digC n ≠ 92 := by
  have := List.all_eq_true.1 (show ((List.range 16).all fun n => digC n != 34 && digC n != 92) = true by decide +kernel) n (List.mem_range.2 h)
  simpa using this
theorem wds_code (c : UInt8) (cur r : List UInt8) : wds cur true (code c ++ r) = wds (cur ++ code c) true r := by
  have hc := c.toNat_lt
  unfold code
  split
  · rename_i h
    have h2 : c ≠ 34 := by intro e; subst e; revert h; decide
    have h3 : c ≠ 92 := by intro e; subst e; revert h; decide
    exact wds_other _ _ _ _ (by simp) h2 (by simp [h3])
  · split
    · exact wds_esc _ _ _
    · split
      · exact wds_esc _ _ _
      · split
        · exact wds_esc _ _ _
        · obtain ⟨a1, a2⟩ := dig_quiet (c.toNat / 16) (by omega)
          obtain ⟨b1, b2⟩ := dig_quiet (c.toNat % 16) (by omega)
          simp only [List.cons_append, List.nil_append]
          rw [wds_esc, wds_other _ _ _ _ (by simp) a1 (by simp [a2]), wds_other _ _ _ _ (by simp) b1 (by simp [b2])]
          simp
theorem wds_quote (b cur r : List UInt8) : wds cur false (quote27 b ++ r) = wds (cur ++ quote27 b) false r := by
  have key : ∀ (b cur : List UInt8), wds cur true (b.flatMap code ++ 34 :: r) = wds (cur ++ b.flatMap code ++ [34]) false r := by
    intro b
    induction b with
    | nil => intro cur; simp [wds_mark]
    | cons c b ih =>
      intro cur
      rw [List.flatMap_cons, List.append_assoc, wds_code, ih]
      simp
  unfold quote27
  rw [List.cons_append, wds_mark, List.append_assoc]
  simp only [Bool.not_false, List.cons_append, List.nil_append]
  rw [key]
  simp

/-- How many words has a line; -1: as many as may be. -/
def wordsN (k : Int) : Int := if k = 0 ∨ k = 10 then 1 else if k = 1 ∨ k = 2 ∨ k = 5 then 3 else if k = 7 then -1 else if k = 9 then 5 else 2
def nums (ws : List (List UInt8)) : Option (List Int) := match ws with
  | [] => some []
  | w :: ws => match numP w, nums ws with
    | some n, some l => some (n :: l)
    | _, _ => none
def octW (w : List UInt8) : Option (List UInt8) := if (unquote27 w).2.2 = 0 ∧ (unquote27 w).2.1 = (w.length : Int) then some (unquote27 w).1 else none
/-- The deed of a line's words behind the first one. -/
def wordsK (k : Int) (ws : List (List UInt8)) : Option Deed :=
  if k = 1 ∨ k = 2 then match ws with
    | [a, q] => match numP a, octW q with
      | some c, some b => some { Deed.of k with conn := c, b := b }
      | _, _ => none
    | _ => none
  else if k = 3 ∨ k = 4 then match ws with
    | [a] => (numP a).map fun c => { Deed.of k with conn := c }
    | _ => none
  else if k = 5 then match ws with
    | [a, b] => match numP a, numP b with
      | some c, some n => some { Deed.of k with conn := c, n := n }
      | _, _ => none
    | _ => none
  else if k = 6 ∨ k = 8 then match ws with
    | [a] => (numP a).map fun n => { Deed.of k with n := n }
    | _ => none
  else if k = 7 then (nums ws).map fun l => { Deed.of k with calls := l }
  else if k = 9 then match ws with
    | [a, q, t, p] => match numP a, keepP q, numP t, numP p with
      | some n, some l, some t, some p => some { Deed.of k with n := n, keep := l, torn := t, part := p }
      | _, _, _, _ => none
    | _ => none
  else match ws with
    | [] => some (Deed.of k)
    | _ => none
def lineR (s : List UInt8) : Option Deed := match wordsL s with
  | [] => none
  | w :: ws => match kindOf w with
    | none => none
    | some k => wordsK k ws
theorem octW_some {w b : List UInt8} (h : octW w = some b) : w = quote27 b := by
  unfold octW at h
  split at h
  · rename_i hc
    simp only [Option.some.injEq] at h
    subst h
    obtain ⟨q, h1, h2⟩ := unquote27_inv (s := w) (b := (unquote27 w).1) (n := (unquote27 w).2.1) (by rw [← hc.1])
    rw [hc.2] at h2
    have h3 := congrArg List.length h1
    rw [List.length_append] at h3
    have h4 : q = [] := List.eq_nil_of_length_eq_zero (by omega)
    rw [h4, List.append_nil] at h1
    exact h1
  · cases h
theorem octW_of (b : List UInt8) : octW (quote27 b) = some b := by
  have h := unquote27_quote b []
  rw [List.append_nil] at h
  unfold octW
  rw [h]; simp
theorem nums_some : ∀ {ws : List (List UInt8)} {l : List Int}, nums ws = some l → ws = l.map numL ∧ ∀ n ∈ l, inI n
  | [], l, h => by
    simp only [nums, Option.some.injEq] at h
    subst h; simp
  | w :: ws, l, h => by
    unfold nums at h
    split at h
    · rename_i n l' hn hl
      simp only [Option.some.injEq] at h
      subst h
      obtain ⟨h1, h2⟩ := numP_some.1 hn
      obtain ⟨h3, h4⟩ := nums_some hl
      refine ⟨by rw [List.map_cons, h2, ← h3], ?_⟩
      intro m hm
      rcases List.mem_cons.1 hm with rfl | hm
      · exact h1
      · exact h4 m hm
    · cases h
theorem nums_of : ∀ {l : List Int}, (∀ n ∈ l, inI n) → nums (l.map numL) = some l
  | [], _ => rfl
  | n :: l, h => by
    have h1 := nums_of (l := l) fun m hm => h m (by simp [hm])
    simp [nums, h1, numP_num (h n (by simp))]
theorem wordsK_sound {k : Int} {ws : List (List UInt8)} {d : Deed} (h0 : 0 ≤ k) (h1 : k ≤ 10) (h : wordsK k ws = some d) : d.kind = k ∧ OkD d ∧ tailD d = ws.flatMap (fun x => 32 :: x) := by
  have z : inI 0 := by decide
  unfold wordsK at h
  split at h
  · rename_i hk
    split at h
    · split at h
      · rename_i a q _ _ c b ha hb
        simp only [Option.some.injEq] at h
        subst h
        obtain ⟨e1, e2⟩ := numP_some.1 ha
        have e3 := octW_some hb
        refine ⟨rfl, ⟨h0, h1, ?_, e1, z, z, z, by simp [Deed.of]⟩, ?_⟩
        · simp [clean, hk, Deed.of]
        · simp [tailD, hk, Deed.of, e2, e3]
      · cases h
    · cases h
  · split at h
    · rename_i hk1 hk
      split at h
      · obtain ⟨c, hc, rfl⟩ := Option.map_eq_some_iff.1 h
        obtain ⟨e1, e2⟩ := numP_some.1 hc
        refine ⟨rfl, ⟨h0, h1, ?_, e1, z, z, z, by simp [Deed.of]⟩, ?_⟩
        · simp [clean, hk1, hk, Deed.of]
        · simp [tailD, hk1, hk, Deed.of, e2]
      · cases h
    · split at h
      · rename_i hk1 hk2 hk
        split at h
        · split at h
          · rename_i a b _ _ c n ha hb
            simp only [Option.some.injEq] at h
            subst h
            obtain ⟨e1, e2⟩ := numP_some.1 ha
            obtain ⟨e3, e4⟩ := numP_some.1 hb
            refine ⟨rfl, ⟨h0, h1, ?_, e1, e3, z, z, by simp [Deed.of]⟩, ?_⟩
            · simp [clean, hk, Deed.of]
            · simp [tailD, hk, Deed.of, e2, e4]
          · cases h
        · cases h
      · split at h
        · rename_i hk1 hk2 hk3 hk
          split at h
          · obtain ⟨n, hn, rfl⟩ := Option.map_eq_some_iff.1 h
            obtain ⟨e1, e2⟩ := numP_some.1 hn
            refine ⟨rfl, ⟨h0, h1, ?_, z, e1, z, z, by simp [Deed.of]⟩, ?_⟩
            · simp [clean, hk1, hk2, hk3, hk, Deed.of]
            · simp [tailD, hk1, hk2, hk3, hk, Deed.of, e2]
          · cases h
        · split at h
          · rename_i hk1 hk2 hk3 hk4 hk
            obtain ⟨l, hl, rfl⟩ := Option.map_eq_some_iff.1 h
            obtain ⟨e1, e2⟩ := nums_some hl
            refine ⟨rfl, ⟨h0, h1, ?_, z, z, z, z, e2⟩, ?_⟩
            · simp [clean, hk, Deed.of]
            · simp [tailD, hk, Deed.of, e1, List.flatMap_map]
          · split at h
            · rename_i hk1 hk2 hk3 hk4 hk5 hk
              split at h
              · split at h
                · rename_i a q t p _ _ _ _ n l t' p' e1 e2 e3 e4
                  simp only [Option.some.injEq] at h
                  subst h
                  obtain ⟨i1, f1⟩ := numP_some.1 e1
                  have f2 := keepP_some.1 e2
                  obtain ⟨i3, f3⟩ := numP_some.1 e3
                  obtain ⟨i4, f4⟩ := numP_some.1 e4
                  refine ⟨rfl, ⟨h0, h1, ?_, z, i1, i3, i4, by simp [Deed.of]⟩, ?_⟩
                  · simp [clean, hk, Deed.of]
                  · simp [tailD, hk, Deed.of, f1, f2, f3, f4]
                · cases h
              · cases h
            · rename_i hk1 hk2 hk3 hk4 hk5 hk6
              split at h
              · simp only [Option.some.injEq] at h
                subst h
                refine ⟨rfl, ⟨h0, h1, ?_, z, z, z, z, by simp [Deed.of]⟩, ?_⟩
                · simp [clean, hk1, hk2, hk3, hk4, hk5, hk6, Deed.of]
                · simp [tailD, hk1, hk2, hk3, hk4, hk5, hk6, Deed.of]
              · cases h
theorem lineR_sound {s : List UInt8} {d : Deed} (h : lineR s = some d) : OkD d ∧ printD d = s := by
  obtain ⟨w, ws, h1, h2⟩ := words_join s
  unfold lineR at h
  rw [h1] at h
  simp only at h
  split at h
  · cases h
  · rename_i k hk
    obtain ⟨k0, k1, hn⟩ := kindOf_inv hk
    obtain ⟨e1, e2, e3⟩ := wordsK_sound k0 k1 h
    refine ⟨e2, ?_⟩
    unfold printD
    rw [e1, e3, hn, ← h2]
theorem wds_nums (l : List Int) (hi : ∀ n ∈ l, inI n) (cur : List UInt8) : wds cur false (l.flatMap fun n => 32 :: numL n) = cur :: l.map numL := by
  induction l generalizing cur with
  | nil => rw [List.flatMap_nil, wds]; rfl
  | cons n l ih =>
    rw [List.flatMap_cons, List.cons_append, wds_blank, wds_bare _ (num_bare (hi n (by simp))), ih (fun m hm => hi m (by simp [hm]))]
    rfl
theorem wds_end (x : List UInt8) (hx : bare x) (cur : List UInt8) : wds cur false x = [cur ++ x] := by
  have := wds_bare x hx cur []
  rw [List.append_nil] at this
  rw [this, wds]
theorem lineR_of {d : Deed} (h : OkD d) : lineR (printD d) = some d := by
  have hw : wordsL (printD d) = wds (nameK d.kind) false (tailD d) := by
    unfold wordsL printD
    rw [wds_bare _ (name_bare _)]; rfl
  have hk := kindOf_name h.k0 h.k1
  obtain ⟨h0, h1, hc, ic, iN, it, ip, ia⟩ := h
  unfold lineR
  rw [hw]
  obtain ⟨k, conn, n, b, calls, keep, torn, part⟩ := d
  simp only at *
  have hq : ∀ cur, wds cur false (quote27 b) = [cur ++ quote27 b] := fun cur => by
    have := wds_quote b cur []
    rw [List.append_nil] at this
    rw [this, wds]
  have hk11 : k = 0 ∨ k = 1 ∨ k = 2 ∨ k = 3 ∨ k = 4 ∨ k = 5 ∨ k = 6 ∨ k = 7 ∨ k = 8 ∨ k = 9 ∨ k = 10 := by omega
  rcases hk11 with rfl | rfl | rfl | rfl | rfl | rfl | rfl | rfl | rfl | rfl | rfl
  all_goals
    simp [clean, Deed.of] at hc
    try obtain ⟨rfl, rfl, rfl, rfl, rfl, rfl, rfl⟩ := hc
    try obtain ⟨rfl, rfl, rfl, rfl, rfl, rfl⟩ := hc
    try obtain ⟨rfl, rfl, rfl, rfl, rfl⟩ := hc
    try obtain ⟨rfl, rfl, rfl, rfl⟩ := hc
    try obtain ⟨rfl, rfl, rfl⟩ := hc
    simp only [tailD]
  · simp [wds, hk, wordsK, Deed.of]
  · simp [wds_blank, wds_bare _ (num_bare ic), hq, hk, wordsK, numP_num ic, octW_of, Deed.of]
  · simp [wds_blank, wds_bare _ (num_bare ic), hq, hk, wordsK, numP_num ic, octW_of, Deed.of]
  · simp [wds_blank, wds_end _ (num_bare ic), hk, wordsK, numP_num ic, Deed.of]
  · simp [wds_blank, wds_end _ (num_bare ic), hk, wordsK, numP_num ic, Deed.of]
  · simp [wds_blank, wds_bare _ (num_bare ic), wds_end _ (num_bare iN), hk, wordsK, numP_num ic, numP_num iN, Deed.of]
  · simp [wds_blank, wds_end _ (num_bare iN), hk, wordsK, numP_num iN, Deed.of]
  · simp [wds_nums _ ia, hk, wordsK, nums_of ia, Deed.of]
  · simp [wds_blank, wds_end _ (num_bare iN), hk, wordsK, numP_num iN, Deed.of]
  · simp [wds_blank, wds_bare _ (num_bare iN), wds_bare _ (keep_bare keep), wds_bare _ (num_bare it), wds_end _ (num_bare ip), hk, wordsK, numP_num iN, numP_num it, numP_num ip, keepP_some.2 rfl, Deed.of]
  · simp [wds, hk, wordsK, Deed.of]
theorem lineR_eq (s : List UInt8) : lineR s = lineD s := ReadsD.eq ⟨fun _ h => lineR_of h, fun _ _ h => lineR_sound h⟩ lineD_reads s

/-! A script. -/
/-- Up to the first LF, and what is behind it. -/
def cutLF : List UInt8 → Option (List UInt8 × List UInt8)
  | [] => none
  | c :: r => if c = 10 then some ([], r) else (cutLF r).map fun x => (c :: x.1, x.2)
def quiet (l : List UInt8) : Bool := match l with
  | [] => true
  | c :: _ => c == 35
def scriptF : Nat → List UInt8 → List Deed → Nat → List Deed × Int × Int
  | 0, _, _, _ => ([], 0, 10)
  | f + 1, s, out, n =>
    if s = [] then (out, (n : Int), 0)
    else match cutLF s with
      | none => ([], ((n + 1 : Nat) : Int), 10)
      | some (line, rest) =>
        if quiet line = true then scriptF f rest out (n + 1)
        else match lineD line with
          | none => ([], ((n + 1 : Nat) : Int), 10)
          | some d => if out.length = 10000 then ([], ((n + 1 : Nat) : Int), 13) else scriptF f rest (out ++ [d]) (n + 1)
def scriptL (s : List UInt8) : List Deed × Int × Int := if 1048576 < s.length then ([], 0, 12) else scriptF (s.length + 1) s [] 0
theorem cutLF_some {s a b : List UInt8} (h : cutLF s = some (a, b)) : s = a ++ 10 :: b ∧ ∀ c ∈ a, c ≠ 10 := by
  induction s generalizing a with
  | nil => cases h
  | cons c r ih =>
    unfold cutLF at h
    split at h
    · rename_i hc
      simp only [Option.some.injEq, Prod.mk.injEq] at h
      obtain ⟨rfl, rfl⟩ := h
      exact ⟨by simp [hc], by simp⟩
    · rename_i hc
      obtain ⟨⟨x, y⟩, hx, he⟩ := Option.map_eq_some_iff.1 h
      simp only [Prod.mk.injEq] at he
      obtain ⟨rfl, rfl⟩ := he
      obtain ⟨h1, h2⟩ := ih hx
      refine ⟨by rw [h1]; rfl, ?_⟩
      intro d hd
      rcases List.mem_cons.1 hd with rfl | hd
      · exact hc
      · exact h2 d hd
theorem cutLF_of {a : List UInt8} (h : ∀ c ∈ a, c ≠ 10) (b : List UInt8) : cutLF (a ++ 10 :: b) = some (a, b) := by
  induction a with
  | nil => simp [cutLF]
  | cons c a ih =>
    rw [List.cons_append]
    unfold cutLF
    rw [if_neg (h c (by simp)), ih (fun d hd => h d (by simp [hd]))]
    rfl
theorem cutLF_none {s : List UInt8} : cutLF s = none ↔ ∀ c ∈ s, c ≠ 10 := by
  constructor
  · intro h c hc e
    subst e
    obtain ⟨a, b, rfl, ha⟩ := List.eq_append_cons_of_mem hc
    rw [cutLF_of (fun x hx e => ha (e ▸ hx)) b] at h
    cases h
  · intro h
    cases hs : cutLF s with
    | none => rfl
    | some p =>
      obtain ⟨h1, _⟩ := cutLF_some (a := p.1) (b := p.2) hs
      exact absurd rfl (h 10 (by rw [h1]; simp))
theorem scriptF_more (f g : Nat) (s : List UInt8) (out : List Deed) (n : Nat) (hf : s.length < f) (hg : s.length < g) : scriptF f s out n = scriptF g s out n := by
  induction f generalizing g s out n with
  | zero => omega
  | succ f ih =>
    cases g with
    | zero => omega
    | succ g =>
      unfold scriptF
      split
      · rfl
      · cases hc : cutLF s with
        | none => rfl
        | some p =>
          obtain ⟨line, rest⟩ := p
          have h1 := congrArg List.length (cutLF_some hc).1
          rw [List.length_append, List.length_cons] at h1
          simp only
          split
          · exact ih _ _ _ _ (by omega) (by omega)
          · cases lineD line with
            | none => rfl
            | some d =>
              simp only
              split
              · rfl
              · exact ih _ _ _ _ (by omega) (by omega)
/-- A printed line has no LF, and is not quiet. -/
theorem print_noLF {d : Deed} (h : OkD d) : ∀ c ∈ printD d, c ≠ 10 := by
  have hn : ∀ n, inI n → ∀ c ∈ numL n, c ≠ 10 := by
    intro n hn c hc e
    subst e
    unfold inI at hn
    unfold numL at hc
    split at hc
    · rcases List.mem_cons.1 hc with hc | hc
      · revert hc; decide
      · have := digs_dig _ (by omega) _ hc
        revert this; decide
    · have := digs_dig _ (by omega) _ hc
      revert this; decide
  have hkk : ∀ c ∈ keepL d.keep, c ≠ 10 := by
    intro c hc e
    subst e
    unfold keepL at hc
    split at hc
    · revert hc; decide
    · obtain ⟨b, _, hb⟩ := List.mem_map.1 hc
      cases b <;> revert hb <;> decide
  have hq : ∀ c ∈ quote27 d.b, c ≠ 10 := by
    intro c hc
    have hco : ∀ x : UInt8, ∀ c ∈ code x, c ≠ 10 := by
      intro x c hc
      have := all_bytes (fun x => (code x).all fun c => !(c == 10)) (by decide +kernel) x
      have := List.all_eq_true.1 this c hc
      simpa using this
    unfold quote27 at hc
    simp only [List.mem_cons, List.mem_append, List.mem_flatMap, List.not_mem_nil, or_false] at hc
    rcases hc with rfl | ⟨x, _, hc⟩ | rfl
    · decide
    · exact hco x c hc
    · decide
  have hk : ∀ c ∈ nameK d.kind, c ≠ 10 := by
    unfold nameK
    repeat' split
    all_goals decide
  intro c hc
  unfold printD at hc
  rcases List.mem_append.1 hc with hc | hc
  · exact hk c hc
  · unfold tailD at hc
    have h32 : (32 : UInt8) ≠ 10 := by decide
    repeat' split at hc
    all_goals
      simp only [List.mem_cons, List.mem_append, List.mem_flatMap, List.not_mem_nil] at hc
      try first
        | (rcases hc with rfl | hc | rfl | hc
           · exact h32
           · exact hn _ (by first | exact h.ic | exact h.iN) c hc
           · exact h32
           · first | exact hq c hc | exact hn _ h.iN c hc)
        | (rcases hc with rfl | hc
           · exact h32
           · exact hn _ (by first | exact h.ic | exact h.iN) c hc)
        | (obtain ⟨n, hm, rfl | hc⟩ := hc
           · exact h32
           · exact hn n (h.ia n hm) c hc)
        | (rcases hc with rfl | hc | rfl | hc | rfl | hc | rfl | hc
           · exact h32
           · exact hn _ h.iN c hc
           · exact h32
           · exact hkk c hc
           · exact h32
           · exact hn _ h.it c hc
           · exact h32
           · exact hn _ h.ip c hc)
theorem print_loud (d : Deed) : quiet (printD d) = false := by
  unfold printD nameK
  repeat' split
  all_goals rfl
theorem script_step {d : Deed} (h : OkD d) (f : Nat) (rest : List UInt8) (out : List Deed) (n : Nat) (ho : out.length < 10000) :
    scriptF (f + 1) (printD d ++ 10 :: rest) out n = scriptF f rest (out ++ [d]) (n + 1) := by
  conv => lhs; unfold scriptF
  rw [if_neg (by simp), cutLF_of (print_noLF h)]
  simp only
  rw [if_neg (by rw [print_loud]; simp), lineD_of h]
  simp only
  rw [if_neg (by omega)]
theorem script_quiet {a : List UInt8} (ha : ∀ c ∈ a, c ≠ 10) (hq : quiet a = true) (f : Nat) (rest : List UInt8) (out : List Deed) (n : Nat) :
    scriptF (f + 1) (a ++ 10 :: rest) out n = scriptF f rest out (n + 1) := by
  conv => lhs; unfold scriptF
  rw [if_neg (by simp), cutLF_of ha]
  simp only
  rw [if_pos hq]
end IH

/- Layer 27 in plain Lean: scripts printed and read, with quiet lines between, and as long as may be. No program in sight; no condition. -/
namespace IH
set_option maxRecDepth 100000

def scriptOf (ds : List Deed) : List UInt8 := ds.flatMap fun d => printD d ++ [10]
theorem scriptOf_cons (d : Deed) (ds : List Deed) : scriptOf (d :: ds) = printD d ++ 10 :: scriptOf ds := by simp [scriptOf]
theorem script_read : ∀ (ds : List Deed) (f : Nat) (out : List Deed) (n : Nat) (r : List UInt8), (∀ d ∈ ds, OkD d) → out.length + ds.length ≤ 10000 → (scriptOf ds ++ r).length < f →
    ∃ g, r.length < g ∧ scriptF f (scriptOf ds ++ r) out n = scriptF g r (out ++ ds) (n + ds.length) := by
  intro ds
  induction ds with
  | nil => intro f out n r _ _ hf; exact ⟨f, by simpa [scriptOf] using hf, by simp [scriptOf]⟩
  | cons d ds ih =>
    intro f out n r hd hl hf
    rw [scriptOf_cons, List.append_assoc, List.cons_append] at hf ⊢
    cases f with
    | zero => simp at hf
    | succ f =>
      simp only [List.length_cons] at hl
      rw [script_step (hd d (by simp)) f _ out n (by omega)]
      obtain ⟨g, hg, e⟩ := ih f (out ++ [d]) (n + 1) r (fun x hx => hd x (by simp [hx])) (by simp; omega) (by simp only [List.length_append, List.length_cons] at hf ⊢; omega)
      refine ⟨g, hg, ?_⟩
      rw [e]
      simp only [List.append_assoc, List.singleton_append, List.length_cons]
      congr 1
      omega
theorem scriptF_nil (f : Nat) (hf : 0 < f) (out : List Deed) (n : Nat) : scriptF f [] out n = (out, (n : Int), 0) := by
  cases f with
  | zero => omega
  | succ f => unfold scriptF; rw [if_pos rfl]
/-- What is printed is read. -/
theorem script_print {ds : List Deed} (hd : ∀ d ∈ ds, OkD d) (hn : ds.length ≤ 10000) (hl : (scriptOf ds).length ≤ 1048576) : scriptL (scriptOf ds) = (ds, (ds.length : Int), 0) := by
  unfold scriptL
  rw [if_neg (by omega)]
  obtain ⟨g, hg, e⟩ := script_read ds ((scriptOf ds).length + 1) [] 0 [] hd (by simpa using hn) (by simp)
  rw [List.append_nil] at e
  rw [e, scriptF_nil g (by simpa using hg)]
  simp
/-- One too many. -/
theorem script_many {ds : List Deed} (hd : ∀ d ∈ ds, OkD d) (hn : 10000 < ds.length) (hl : (scriptOf ds).length ≤ 1048576) : scriptL (scriptOf ds) = ([], 10001, 13) := by
  obtain ⟨d, r, hr⟩ : ∃ d r, ds.drop 10000 = d :: r := by
    cases h : ds.drop 10000 with
    | nil => have := congrArg List.length h; rw [List.length_drop] at this; simp at this; omega
    | cons d r => exact ⟨d, r, rfl⟩
  have hs : ds = ds.take 10000 ++ d :: r := by rw [← hr, List.take_append_drop]
  have hd1 : OkD d := hd d (by rw [hs]; simp)
  have ht : (ds.take 10000).length = 10000 := by rw [List.length_take]; omega
  have he : scriptOf ds = scriptOf (ds.take 10000) ++ (printD d ++ 10 :: scriptOf r) := by
    conv => lhs; rw [hs]
    simp [scriptOf]
  unfold scriptL
  rw [if_neg (by omega), he]
  obtain ⟨g, hg, e⟩ := script_read (ds.take 10000) ((scriptOf (ds.take 10000) ++ (printD d ++ 10 :: scriptOf r)).length + 1) [] 0 (printD d ++ 10 :: scriptOf r)
    (fun x hx => hd x (List.mem_of_mem_take hx)) (by rw [ht]; simp) (by omega)
  rw [e]
  cases g with
  | zero => omega
  | succ g =>
    unfold scriptF
    rw [if_neg (by simp), cutLF_of (print_noLF hd1)]
    simp only
    rw [if_neg (by rw [print_loud]; simp), lineD_of hd1]
    simp only
    rw [List.nil_append, if_pos ht, ht]
    rfl
/-- A deed's line is what is told of it. -/
theorem clean_ok {d : Deed} (h0 : 0 ≤ d.kind) (h1 : d.kind ≤ 10) (ic : inI d.conn) (iN : inI d.n) (it : inI d.torn) (ip : inI d.part) (ia : ∀ n ∈ d.calls, inI n) : OkD (clean d) ∧ printD (clean d) = printD d := by
  have z : inI 0 := by decide
  obtain ⟨k, conn, n, b, calls, keep, torn, part⟩ := d
  simp only at *
  have hk : k = 0 ∨ k = 1 ∨ k = 2 ∨ k = 3 ∨ k = 4 ∨ k = 5 ∨ k = 6 ∨ k = 7 ∨ k = 8 ∨ k = 9 ∨ k = 10 := by omega
  rcases hk with rfl | rfl | rfl | rfl | rfl | rfl | rfl | rfl | rfl | rfl | rfl
  all_goals
    refine ⟨⟨?_, ?_, ?_, ?_, ?_, ?_, ?_, ?_⟩, ?_⟩
    all_goals first
      | (simp [clean, Deed.of]; done)
      | (simp [clean, Deed.of]; assumption)
      | (simp [clean, Deed.of, printD, tailD]; done)
theorem line_clean {d : Deed} (h0 : 0 ≤ d.kind) (h1 : d.kind ≤ 10) (ic : inI d.conn) (iN : inI d.n) (it : inI d.torn) (ip : inI d.part) (ia : ∀ n ∈ d.calls, inI n) : lineD (printD d) = some (clean d) := by
  obtain ⟨h2, h3⟩ := clean_ok h0 h1 ic iN it ip ia
  rw [← h3]
  exact lineD_of h2
theorem num_length {n : Int} (_ : inI n) : (numL n).length ≤ 65 := by
  unfold numL
  split
  · have := digs_length 10 64 (-n).toNat; simp; omega
  · have := digs_length 10 64 n.toNat; omega
theorem quote_length (b : List UInt8) : (quote27 b).length ≤ 4 * b.length + 2 := by
  unfold quote27
  have : (b.flatMap code).length ≤ 4 * b.length := by
    induction b with
    | nil => simp
    | cons c b ih =>
      have := (code_length c).2
      rw [List.flatMap_cons, List.length_append, List.length_cons]; omega
  simp only [List.length_cons, List.length_append, List.length_nil]; omega
theorem calls_length : ∀ (l : List Int), (∀ n ∈ l, inI n) → (l.flatMap fun n => 32 :: numL n).length ≤ 66 * l.length
  | [], _ => by simp
  | n :: l, h => by
    have h1 := num_length (h n (by simp))
    have h2 := calls_length l fun m hm => h m (by simp [hm])
    simp only [List.flatMap_cons, List.length_append, List.length_cons] at *
    omega
theorem keep_length (l : List Bool) : (keepL l).length ≤ l.length + 1 := by
  unfold keepL
  split
  · simp
  · simp
theorem name_length (k : Int) : (nameK k).length ≤ 6 := by
  unfold nameK
  repeat' split
  all_goals decide
theorem print_length {d : Deed} (ic : inI d.conn) (iN : inI d.n) (it : inI d.torn) (ip : inI d.part) (ia : ∀ n ∈ d.calls, inI n) : (printD d).length ≤ 300 + 4 * d.b.length + 66 * d.calls.length + d.keep.length := by
  have h1 := num_length ic
  have h2 := num_length iN
  have h3 := num_length it
  have h4 := num_length ip
  have h5 := quote_length d.b
  have h6 := calls_length d.calls ia
  have h7 := keep_length d.keep
  have h8 := name_length d.kind
  unfold printD
  rw [List.length_append]
  have : (tailD d).length ≤ 294 + 4 * d.b.length + 66 * d.calls.length + d.keep.length := by
    unfold tailD
    repeat' split
    all_goals
      try simp only [List.length_cons, List.length_append, List.length_nil]
      omega
  omega
/-- Notes between. -/
def quietOf : List (List UInt8) → List Deed → List UInt8
  | [], ds => scriptOf ds
  | a :: as, [] => (35 :: a) ++ 10 :: ([] ++ 10 :: quietOf as [])
  | a :: as, d :: ds => (35 :: a) ++ 10 :: ([] ++ 10 :: (printD d ++ 10 :: quietOf as ds))
theorem quiet_read : ∀ (as : List (List UInt8)) (ds : List Deed) (f : Nat) (out : List Deed) (n : Nat), (∀ a ∈ as, ∀ c ∈ a, c ≠ 10) → (∀ d ∈ ds, OkD d) → out.length + ds.length ≤ 10000 → (quietOf as ds).length < f →
    scriptF f (quietOf as ds) out n = (out ++ ds, ((n + 2 * as.length + ds.length : Nat) : Int), 0) := by
  intro as
  induction as with
  | nil =>
    intro ds f out n _ hd hl hf
    obtain ⟨g, hg, e⟩ := script_read ds f out n [] hd hl (by simpa [quietOf] using hf)
    rw [List.append_nil] at e
    show scriptF f (scriptOf ds) out n = _
    rw [e, scriptF_nil g (by simpa using hg)]
    simp
  | cons a as ih =>
    intro ds f out n ha hd hl hf
    have h1 : ∀ c ∈ 35 :: a, c ≠ 10 := by
      intro c hc
      rcases List.mem_cons.1 hc with rfl | hc
      · decide
      · exact ha a (by simp) c hc
    have h2 : ∀ c ∈ ([] : List UInt8), c ≠ 10 := by simp
    have ha' : ∀ x ∈ as, ∀ c ∈ x, c ≠ 10 := fun x hx => ha x (by simp [hx])
    cases ds with
    | nil =>
      unfold quietOf at hf ⊢
      simp only [List.length_append, List.length_cons, List.length_nil] at hf
      obtain ⟨f, rfl⟩ : ∃ g, f = g + 2 := ⟨f - 2, by omega⟩
      rw [script_quiet h1 rfl, script_quiet h2 rfl, ih [] f out (n + 1 + 1) ha' hd hl (by omega)]
      simp only [List.length_cons, List.length_nil]
      congr 3
      omega
    | cons d ds =>
      unfold quietOf at hf ⊢
      simp only [List.length_append, List.length_cons, List.length_nil] at hf hl
      obtain ⟨f, rfl⟩ : ∃ g, f = g + 3 := ⟨f - 3, by omega⟩
      rw [script_quiet h1 rfl, script_quiet h2 rfl, script_step (hd d (by simp)) _ _ _ _ (by omega), ih ds f (out ++ [d]) (n + 1 + 1 + 1) ha' (fun x hx => hd x (by simp [hx])) (by simp; omega) (by omega)]
      simp only [List.length_cons, List.append_assoc, List.singleton_append]
      congr 3
      omega
theorem quiet_length : ∀ (as : List (List UInt8)) (ds : List Deed) (A B : Nat), (∀ a ∈ as, a.length ≤ A) → (∀ d ∈ ds, (printD d).length ≤ B) → (quietOf as ds).length ≤ as.length * (A + 3) + ds.length * (B + 1) := by
  intro as
  induction as with
  | nil =>
    intro ds A B _ hd
    induction ds with
    | nil => simp [quietOf, scriptOf]
    | cons d ds ih =>
      have h1 := ih fun x hx => hd x (by simp [hx])
      have h2 := hd d (by simp)
      simp only [quietOf, List.length_nil, Nat.zero_mul, Nat.zero_add] at *
      rw [scriptOf_cons]
      simp only [List.length_append, List.length_cons, Nat.succ_mul]
      omega
  | cons a as ih =>
    intro ds A B ha hd
    have h1 := ha a (by simp)
    cases ds with
    | nil =>
      have h2 := ih [] A B (fun x hx => ha x (by simp [hx])) (by simp)
      unfold quietOf
      simp only [List.length_append, List.length_cons, List.length_nil, Nat.succ_mul, Nat.zero_mul] at *
      omega
    | cons d ds =>
      have h2 := ih ds A B (fun x hx => ha x (by simp [hx])) (fun x hx => hd x (by simp [hx]))
      have h3 := hd d (by simp)
      unfold quietOf
      simp only [List.length_append, List.length_cons, List.length_nil, Nat.succ_mul] at *
      omega
theorem quiet_print {as : List (List UInt8)} {ds : List Deed} (ha : ∀ a ∈ as, ∀ c ∈ a, c ≠ 10) (hd : ∀ d ∈ ds, OkD d) (hn : ds.length ≤ 10000) (hl : (quietOf as ds).length ≤ 1048576) :
    scriptL (quietOf as ds) = (ds, ((2 * as.length + ds.length : Nat) : Int), 0) := by
  unfold scriptL
  rw [if_neg (by omega), quiet_read as ds _ [] 0 ha hd (by simpa using hn) (Nat.lt_succ_self _)]
  simp
/-- A script that is one long note. -/
theorem script_note {a : List UInt8} (ha : ∀ c ∈ a, c ≠ 10) (hq : quiet a = true) : scriptL (a ++ [10]) = if 1048576 < a.length + 1 then ([], 0, 12) else ([], 1, 0) := by
  unfold scriptL
  rw [List.length_append]
  simp only [List.length_cons, List.length_nil, Nat.zero_add]
  split
  · rfl
  · rw [script_quiet ha hq, scriptF_nil _ (by omega)]
    rfl
end IH

/- Layer 27 in plain Lean: the code's way, and the document's, from a text to its number. No program in sight; no condition. -/
namespace IH
set_option maxRecDepth 100000

/-- "9223372036854775808" -/
def least19 : List UInt8 := [57, 50, 50, 51, 51, 55, 50, 48, 51, 54, 56, 53, 52, 55, 55, 53, 56, 48, 56]
/-- The code's way: the number, the error, ahead of the last test. -/
def numC (s : List UInt8) : Int × Int :=
  if s.head? = some 45 then
    (if s.drop 1 = least19 then (-9223372036854775808, 0) else (-(numR 10 9223372036854775807 (s.drop 1)).1, (numR 10 9223372036854775807 (s.drop 1)).2))
  else numR 10 9223372036854775807 s
theorem digs_head (n : Nat) (hn : n ≤ 9223372036854775808) : (digs 10 64 n).head? ≠ some 45 := by
  intro h
  cases hl : digs 10 64 n with
  | nil => rw [hl] at h; cases h
  | cons c r =>
    rw [hl] at h
    simp only [List.head?_cons, Option.some.injEq] at h
    subst h
    have := digs_dig n hn 45 (by rw [hl]; simp)
    revert this; decide
theorem numR_bd27 (M : Int) (hM : 0 ≤ M) (l : List UInt8) : 0 ≤ (numR 10 M l).1 ∧ (numR 10 M l).1 ≤ M := by
  unfold numR
  split
  · exact ⟨by simp, hM⟩
  · split
    · exact ⟨by simp, hM⟩
    · split
      · exact ⟨by simp, hM⟩
      · cases h : accN 10 M 0 l with
        | none => simp [accR, hM]
        | some v => exact accN_bound 10 (by omega) M 0 v l h (by omega) hM
theorem numC_in (s : List UInt8) : inI (numC s).1 := by
  unfold numC inI
  split
  · split
    · simp
    · have := numR_bd27 9223372036854775807 (by omega) (s.drop 1)
      simp only; omega
  · have := numR_bd27 9223372036854775807 (by omega) s
    omega
theorem least19_digs : digs 10 64 9223372036854775808 = least19 := by decide +kernel
/-- A number, read by the code. -/
theorem numC_num {n : Int} (h : inI n) : numC (numL n) = (n, 0) := by
  unfold inI at h
  unfold numC numL
  by_cases hn : n < 0
  · rw [if_pos hn]
    simp only [List.head?_cons, if_true, List.drop_succ_cons, List.drop_zero]
    by_cases hm : n = -9223372036854775808
    · subst hm
      have : (-(-9223372036854775808 : Int)).toNat = 9223372036854775808 := by decide
      rw [this, if_pos least19_digs]
    · have hne : digs 10 64 (-n).toNat ≠ least19 := by
        intro e
        rw [← least19_digs] at e
        have := congrArg valN e
        rw [val_digs _ (by omega), val_digs _ (by omega)] at this
        omega
      rw [if_neg hne, numR_print 10 (.inl rfl) (-n).toNat (by omega)]
      simp only [Prod.mk.injEq, and_true]
      omega
  · rw [if_neg hn, if_neg (digs_head _ (by omega)), numR_print 10 (.inl rfl) n.toNat (by omega)]
    simp only [Prod.mk.injEq, and_true]
    omega
/-- What the code says of a text: the number just if it is one. -/
theorem numC_says (s : List UInt8) : ((numC s).2 = 0 ∧ numL (numC s).1 = s ↔ (numP s).isSome = true) ∧ (∀ n, numP s = some n → numC s = (n, 0)) := by
  have h2 : ∀ n, numP s = some n → numC s = (n, 0) := by
    intro n hn
    obtain ⟨hi, rfl⟩ := numP_some.1 hn
    exact numC_num hi
  refine ⟨?_, h2⟩
  constructor
  · rintro ⟨_, he⟩
    rw [numP_some.2 ⟨numC_in s, he⟩]; rfl
  · intro h
    obtain ⟨n, hn⟩ := Option.isSome_iff_exists.1 h
    obtain ⟨_, rfl⟩ := numP_some.1 hn
    rw [h2 n hn]
    exact ⟨rfl, rfl⟩

/-! The document's way: downwards, and turned about. -/
def valFrom (m : Nat) (l : List UInt8) : Nat := l.foldl (fun n c => n * 10 + (c.toNat - 48)) m
theorem valFrom_le : ∀ (l : List UInt8) (m : Nat), m ≤ valFrom m l
  | [], m => Nat.le_refl _
  | c :: l, m => by
    have := valFrom_le l (m * 10 + (c.toNat - 48))
    show m ≤ valFrom (m * 10 + (c.toNat - 48)) l
    omega
/-- Octet by octet; W: what an int makes of a number that is too great. -/
def downW (W : Int → Int) : Int → List UInt8 → Int
  | n, [] => n
  | n, c :: l => downW W (W (n * 10 - ((c.toNat : Int) - 48))) l
theorem downW_val (W : Int → Int) (hW : ∀ x, inI x → W x = x) : ∀ (l : List UInt8) (m : Nat), (∀ c ∈ l, 48 ≤ c.toNat ∧ c.toNat ≤ 57) → valFrom m l ≤ 9223372036854775808 → downW W (-(m : Int)) l = -(valFrom m l : Int)
  | [], m, _, _ => rfl
  | c :: l, m, hc, hv => by
    have h1 := hc c (by simp)
    have hv' : valFrom (m * 10 + (c.toNat - 48)) l ≤ 9223372036854775808 := hv
    have h2 := valFrom_le l (m * 10 + (c.toNat - 48))
    have e : -(m : Int) * 10 - ((c.toNat : Int) - 48) = -((m * 10 + (c.toNat - 48) : Nat) : Int) := by omega
    show downW W (W (-(m : Int) * 10 - ((c.toNat : Int) - 48))) l = _
    rw [e, hW _ (by unfold inI; omega), downW_val W hW l _ (fun d hd => hc d (by simp [hd])) hv']
    rfl
/-- A number's digits, downwards. -/
theorem downW_digs (W : Int → Int) (hW : ∀ x, inI x → W x = x) (n : Nat) (hn : n ≤ 9223372036854775808) : downW W 0 (digs 10 64 n) = -(n : Int) := by
  have hv := val_digs n hn
  have h := downW_val W hW (digs 10 64 n) 0 (digs_dig n hn) (by show valN (digs 10 64 n) ≤ _; omega)
  have e : valFrom 0 (digs 10 64 n) = n := hv
  rw [e] at h
  simpa using h
theorem digs19 (n : Nat) (hn : n ≤ 9223372036854775808) : (digs 10 64 n).length ≤ 19 := by
  have key : ∀ (k n : Nat), n < 10 ^ (k + 1) → n < 2 ^ 63 → (digs 10 64 n).length ≤ k + 1 := by
    intro k
    induction k with
    | zero => intro n h _; rw [digs_small _ _ (by simpa using h)]; simp
    | succ k ih =>
      intro n h hn
      rcases Nat.lt_or_ge n 10 with h10 | h10
      · rw [digs_small _ _ h10]; simp
      · rw [digs_step 10 (by omega) n hn h10, List.length_append]
        have := ih (n / 10) (by rw [Nat.pow_succ] at h; omega) (by omega)
        simp; omega
  rcases Nat.lt_or_ge n 9223372036854775808 with h | h
  · exact key 18 n (by omega) (by omega)
  · obtain rfl : n = 9223372036854775808 := by omega
    rw [least19_digs]; decide
end IH

/- A deed's line, read by what its form asks for, one ask behind the other: the same as the reading by kinds. Plain; no condition. -/
namespace IH
set_option maxRecDepth 100000
def asksK (k : Int) : List UInt8 :=
  if k = 1 ∨ k = 2 then [99, 111] else if k = 3 ∨ k = 4 then [99] else if k = 5 then [99, 110] else if k = 6 ∨ k = 8 then [110] else if k = 7 then [102] else if k = 9 then [110, 107, 116, 112] else []
/-- A number put where it is asked for. -/
def putD (ask : UInt8) (d : Deed) (n : Int) : Deed :=
  if ask = 99 then { d with conn := n } else if ask = 110 then { d with n := n } else if ask = 116 then { d with torn := n } else if ask = 112 then { d with part := n } else { d with calls := d.calls ++ [n] }
/-- What is asked for, taken from the front of a line. -/
def askD (ask : UInt8) (d : Deed) (r : List UInt8) : Option (Deed × List UInt8) :=
  if ask = 111 then (tOct r).map fun x => ({ d with b := x.1 }, x.2)
  else if ask = 107 then (tKeep r).map fun x => ({ d with keep := x.1 }, x.2)
  else (tNum r).map fun x => (putD ask d x.1, x.2)
def callsD : Nat → Deed → List UInt8 → Option Deed
  | 0, _, _ => none
  | f + 1, d, r => if r = [] then some d else match askD 102 d r with
    | none => none
    | some x => callsD f x.1 x.2
def asksD : List UInt8 → Deed → List UInt8 → Option Deed
  | [], d, r => if r = [] then some d else none
  | a :: as, d, r => if a = 102 then callsD (r.length + 1) d r else match askD a d r with
    | none => none
    | some x => asksD as x.1 x.2
theorem shut_map {α : Type} (f : α → Deed) (x : Option (α × List UInt8)) : (match x.map (fun y => (f y.1, y.2)) with
    | none => none
    | some y => if y.2 = [] then some y.1 else none) = (shut x).map f := by
  cases x with
  | none => rfl
  | some y =>
    obtain ⟨a, r⟩ := y
    simp only [Option.map_some, shut]
    split <;> rfl
theorem ask102 (d : Deed) (r : List UInt8) : askD 102 d r = (tNum r).map fun x => ({ d with calls := d.calls ++ [x.1] }, x.2) := by
  unfold askD putD
  simp
theorem callsD_all : ∀ (f : Nat) (d : Deed) (r : List UInt8), callsD f d r = (tAll f r).map fun l => { d with calls := d.calls ++ l }
  | 0, _, _ => rfl
  | f + 1, d, r => by
    unfold callsD tAll
    by_cases h : r = []
    · rw [if_pos h, if_pos h]
      simp
    · rw [if_neg h, if_neg h, ask102]
      cases hn : tNum r with
      | none => rfl
      | some x =>
        obtain ⟨n, r'⟩ := x
        simp only [Option.map_some]
        rw [callsD_all f _ r', Option.map_map]
        congr 1
        funext l
        simp
theorem ask99 (d : Deed) (r : List UInt8) : askD 99 d r = (tNum r).map fun x => ({ d with conn := x.1 }, x.2) := by unfold askD putD; simp
theorem ask110 (d : Deed) (r : List UInt8) : askD 110 d r = (tNum r).map fun x => ({ d with n := x.1 }, x.2) := by unfold askD putD; simp
theorem ask116 (d : Deed) (r : List UInt8) : askD 116 d r = (tNum r).map fun x => ({ d with torn := x.1 }, x.2) := by unfold askD putD; simp
theorem ask112 (d : Deed) (r : List UInt8) : askD 112 d r = (tNum r).map fun x => ({ d with part := x.1 }, x.2) := by unfold askD putD; simp
theorem ask111 (d : Deed) (r : List UInt8) : askD 111 d r = (tOct r).map fun x => ({ d with b := x.1 }, x.2) := by unfold askD; simp
theorem ask107 (d : Deed) (r : List UInt8) : askD 107 d r = (tKeep r).map fun x => ({ d with keep := x.1 }, x.2) := by unfold askD; simp
theorem asks_nil (d : Deed) (r : List UInt8) : asksD [] d r = if r = [] then some d else none := rfl
theorem asks_cons {a : UInt8} (h : a ≠ 102) (as : List UInt8) (d : Deed) (r : List UInt8) : asksD (a :: as) d r = match askD a d r with
    | none => none
    | some x => asksD as x.1 x.2 := by conv => lhs; unfold asksD; rw [if_neg h]
theorem asks_102 (as : List UInt8) (d : Deed) (r : List UInt8) : asksD (102 :: as) d r = callsD (r.length + 1) d r := by conv => lhs; unfold asksD; rw [if_pos rfl]
theorem asks_last {a : UInt8} (h : a ≠ 102) {α : Type} (d : Deed) (r : List UInt8) (x : Option (α × List UInt8)) (f : α → Deed) (hx : askD a d r = x.map fun y => (f y.1, y.2)) : asksD [a] d r = (shut x).map f := by
  rw [asks_cons h, hx, ← shut_map]
  cases x <;> rfl
/-- The reading by asks is the reading by kinds. -/
theorem asks_line (k : Int) (r : List UInt8) : asksD (asksK k) (Deed.of k) r = lineK k r := by
  unfold asksK lineK
  by_cases c1 : k = 1 ∨ k = 2
  · rw [if_pos c1, if_pos c1, asks_cons (by decide), ask99]
    cases tNum r with
    | none => rfl
    | some x =>
      simp only [Option.map_some]
      exact asks_last (by decide) _ _ _ _ (ask111 _ _)
  rw [if_neg c1, if_neg c1]
  by_cases c2 : k = 3 ∨ k = 4
  · rw [if_pos c2, if_pos c2]
    exact asks_last (by decide) _ _ _ _ (ask99 _ _)
  rw [if_neg c2, if_neg c2]
  by_cases c3 : k = 5
  · rw [if_pos c3, if_pos c3, asks_cons (by decide), ask99]
    cases tNum r with
    | none => rfl
    | some x =>
      simp only [Option.map_some]
      exact asks_last (by decide) _ _ _ _ (ask110 _ _)
  rw [if_neg c3, if_neg c3]
  by_cases c4 : k = 6 ∨ k = 8
  · rw [if_pos c4, if_pos c4]
    exact asks_last (by decide) _ _ _ _ (ask110 _ _)
  rw [if_neg c4, if_neg c4]
  by_cases c5 : k = 7
  · rw [if_pos c5, if_pos c5, asks_102, callsD_all]
    rfl
  rw [if_neg c5, if_neg c5]
  by_cases c6 : k = 9
  · rw [if_pos c6, if_pos c6, asks_cons (by decide), ask110]
    cases tNum r with
    | none => rfl
    | some x =>
      simp only [Option.map_some]
      rw [asks_cons (by decide), ask107]
      cases tKeep x.2 with
      | none => rfl
      | some y =>
        simp only [Option.map_some]
        rw [asks_cons (by decide), ask116]
        cases tNum y.2 with
        | none => rfl
        | some z =>
          simp only [Option.map_some]
          exact asks_last (by decide) _ _ _ _ (ask112 _ _)
  rw [if_neg c6, if_neg c6]
  rfl
/-- An ask that is taken shortens the line. -/
theorem drop_lt {s r : List UInt8} (h : r.length ≤ s.length) : r.length < (32 :: s).length := by simp; omega
theorem rest_le (s : List UInt8) : (restW s).length ≤ s.length := (List.dropWhile_suffix _).length_le
theorem askD_lt {a : UInt8} {d d' : Deed} {r r' : List UInt8} (h : askD a d r = some (d', r')) : r'.length < r.length := by
  have key : ∃ s, r = 32 :: s ∧ r'.length ≤ s.length := by
    unfold askD at h
    split at h
    · obtain ⟨⟨x, y⟩, h1, h2⟩ := Option.map_eq_some_iff.1 h
      simp only [Prod.mk.injEq] at h2
      obtain ⟨_, rfl⟩ := h2
      unfold tOct at h1
      split at h1
      · cases h1
      · rename_i c s
        split at h1
        · rename_i hc
          split at h1
          · simp only [Option.some.injEq, Prod.mk.injEq] at h1
            obtain ⟨_, rfl⟩ := h1
            exact ⟨s, by rw [hc], by simp⟩
          · cases h1
        · cases h1
    · split at h
      · obtain ⟨⟨x, y⟩, h1, h2⟩ := Option.map_eq_some_iff.1 h
        simp only [Prod.mk.injEq] at h2
        obtain ⟨_, rfl⟩ := h2
        unfold tKeep at h1
        split at h1
        · cases h1
        · rename_i c s
          split at h1
          · rename_i hc
            obtain ⟨z, _, h3⟩ := Option.map_eq_some_iff.1 h1
            simp only [Prod.mk.injEq] at h3
            obtain ⟨_, rfl⟩ := h3
            exact ⟨s, by rw [hc], rest_le s⟩
          · cases h1
      · obtain ⟨⟨x, y⟩, h1, h2⟩ := Option.map_eq_some_iff.1 h
        simp only [Prod.mk.injEq] at h2
        obtain ⟨_, rfl⟩ := h2
        unfold tNum at h1
        split at h1
        · cases h1
        · rename_i c s
          split at h1
          · rename_i hc
            obtain ⟨z, _, h3⟩ := Option.map_eq_some_iff.1 h1
            simp only [Prod.mk.injEq] at h3
            obtain ⟨_, rfl⟩ := h3
            exact ⟨s, by rw [hc], rest_le s⟩
          · cases h1
  obtain ⟨s, rfl, h2⟩ := key
  exact drop_lt h2
theorem callsD_more : ∀ (f g : Nat) (d : Deed) (r : List UInt8), r.length < f → r.length < g → callsD f d r = callsD g d r
  | 0, _, _, _, h, _ => by omega
  | _ + 1, 0, _, _, _, h => by omega
  | f + 1, g + 1, d, r, hf, hg => by
    unfold callsD
    split
    · rfl
    · cases h : askD 102 d r with
      | none => rfl
      | some x =>
        have := askD_lt (d' := x.1) (r' := x.2) h
        exact callsD_more f g x.1 x.2 (by omega) (by omega)
/-- One round of the calls that fail. -/
theorem callsD_step (d : Deed) {r : List UInt8} (hr : r ≠ []) : callsD (r.length + 1) d r = match askD 102 d r with
    | none => none
    | some x => callsD (x.2.length + 1) x.1 x.2 := by
  conv => lhs; unfold callsD
  rw [if_neg hr]
  cases h : askD 102 d r with
  | none => rfl
  | some x =>
    have := askD_lt (d' := x.1) (r' := x.2) h
    exact callsD_more _ _ _ _ (by omega) (by omega)
theorem callsD_done (d : Deed) : callsD 1 d [] = some d := rfl
end IH

/- Layer 27 in plain Lean: the document's reading of a line, as its program goes: the kind by names and counts, the numbers of its words. No program in sight; no condition. -/
namespace IH
set_option maxRecDepth 100000
/-- The kind that the first k names and counts give. -/
def kAt (w : List UInt8) (m : Nat) : Nat → Int
  | 0 => -1
  | i + 1 => if nameK i = w ∧ (wordsN i < 0 ∨ wordsN i = (m : Int)) then (i : Int) else kAt w m i
theorem kAt_no (w : List UInt8) (m : Nat) : ∀ i : Nat, (∀ j : Nat, j < i → ¬ (nameK j = w ∧ (wordsN j < 0 ∨ wordsN j = (m : Int)))) → kAt w m i = -1
  | 0, _ => rfl
  | i + 1, h => by
    unfold kAt
    rw [if_neg (h i (by omega))]
    exact kAt_no w m i fun j hj => h j (by omega)
theorem kAt_yes (w : List UInt8) (m k : Nat) (hk : nameK k = w ∧ (wordsN k < 0 ∨ wordsN k = (m : Int))) : ∀ i : Nat, k < i → (∀ j : Nat, j < i → nameK j = w → j = k) → kAt w m i = k
  | 0, h, _ => by omega
  | i + 1, h, hu => by
    unfold kAt
    by_cases hi : i = k
    · subst hi
      rw [if_pos hk]
    · rw [if_neg fun hh => hi (hu i (by omega) hh.1)]
      exact kAt_yes w m k hk i (by omega) fun j hj => hu j (by omega)
theorem name_one {j k : Nat} (hj : j ≤ 10) (hk : k ≤ 10) (h : nameK j = nameK k) : j = k := by
  have h1 := kindOf_name (k := (j : Int)) (by omega) (by omega)
  have h2 := kindOf_name (k := (k : Int)) (by omega) (by omega)
  rw [h, h2] at h1
  injection h1 with h1
  omega
theorem words_count {k : Int} (hk0 : 0 ≤ k) (hk1 : k ≤ 10) {ws : List (List UInt8)} (h : ¬ (wordsN k < 0 ∨ wordsN k = ((ws.length + 1 : Nat) : Int))) : wordsK k ws = none := by
  unfold wordsN at h
  unfold wordsK
  by_cases h0 : k = 0 ∨ k = 10
  · rw [if_pos h0] at h
    rw [if_neg (by omega), if_neg (by omega), if_neg (by omega), if_neg (by omega), if_neg (by omega), if_neg (by omega)]
    cases ws with
    | nil => exfalso; simp at h
    | cons => rfl
  rw [if_neg h0] at h
  by_cases h1 : k = 1 ∨ k = 2 ∨ k = 5
  · rw [if_pos h1] at h
    by_cases h5 : k = 1 ∨ k = 2
    · rw [if_pos h5]
      rcases ws with _ | ⟨a, _ | ⟨b, _ | ⟨c, ws⟩⟩⟩
      · rfl
      · rfl
      · exfalso; simp at h
      · rfl
    · rw [if_neg h5, if_neg (by omega), if_pos (by omega)]
      rcases ws with _ | ⟨a, _ | ⟨b, _ | ⟨c, ws⟩⟩⟩
      · rfl
      · rfl
      · exfalso; simp at h
      · rfl
  rw [if_neg h1] at h
  by_cases h7 : k = 7
  · rw [if_pos h7] at h
    exfalso; simp at h
  rw [if_neg h7] at h
  by_cases h9 : k = 9
  · rw [if_pos h9] at h
    rw [if_neg (by omega), if_neg (by omega), if_neg (by omega), if_neg (by omega), if_neg (by omega), if_pos h9]
    rcases ws with _ | ⟨a, _ | ⟨b, _ | ⟨c, _ | ⟨d, _ | ⟨e, ws⟩⟩⟩⟩⟩
    · rfl
    · rfl
    · rfl
    · rfl
    · exfalso; simp at h
    · rfl
  rw [if_neg h9] at h
  rw [if_neg (by omega)]
  by_cases h3 : k = 3 ∨ k = 4
  · rw [if_pos h3]
    rcases ws with _ | ⟨a, _ | ⟨b, ws⟩⟩
    · rfl
    · exfalso; simp at h
    · rfl
  rw [if_neg h3, if_neg (by omega)]
  by_cases h6 : k = 6 ∨ k = 8
  · rw [if_pos h6]
    rcases ws with _ | ⟨a, _ | ⟨b, ws⟩⟩
    · rfl
    · exfalso; simp at h
    · rfl
  omega
def lineW (w : List UInt8) (ws : List (List UInt8)) : Option Deed := match kindOf w with
  | none => none
  | some k => wordsK k ws
theorem lineR_words {s w : List UInt8} {ws : List (List UInt8)} (h : wordsL s = w :: ws) : lineR s = lineW w ws := by
  unfold lineR lineW
  rw [h]
  all_goals (cases hk : kindOf w <;> rfl)
/-- What the loop over names leaves: no kind, and no deed; or the line's kind, and as many words as it asks for. -/
theorem kAt_line (w : List UInt8) (ws : List (List UInt8)) : (kAt w (ws.length + 1) 11 = -1 ∧ lineW w ws = none) ∨
    ∃ k : Nat, k ≤ 10 ∧ kAt w (ws.length + 1) 11 = (k : Int) ∧ (wordsN k < 0 ∨ wordsN k = ((ws.length + 1 : Nat) : Int)) ∧ lineW w ws = wordsK k ws := by
  unfold lineW
  cases hk : kindOf w with
  | none =>
    left
    refine ⟨kAt_no _ _ _ fun j hj h => ?_, rfl⟩
    have := kindOf_name (k := (j : Int)) (by omega) (by omega)
    rw [h.1, hk] at this
    cases this
  | some k =>
    obtain ⟨h0, h1, h2⟩ := kindOf_inv hk
    obtain ⟨n, rfl⟩ : ∃ n : Nat, k = (n : Int) := ⟨k.toNat, by omega⟩
    by_cases hc : wordsN n < 0 ∨ wordsN n = ((ws.length + 1 : Nat) : Int)
    · right
      exact ⟨n, by omega, kAt_yes _ _ n ⟨h2, hc⟩ 11 (by omega) fun j hj h => name_one (by omega) (by omega) (h.trans h2.symm), hc, rfl⟩
    · left
      refine ⟨kAt_no _ _ _ fun j hj h => ?_, words_count h0 h1 hc⟩
      have : j = n := name_one (by omega) (by omega) (h.1.trans h2.symm)
      subst this
      exact hc h.2
/-- Numbers that words say, where they say any. -/
def NumsOk : List (List UInt8) → List Int → Prop
  | [], [] => True
  | x :: xs, n :: N => (∀ v, numP x = some v → n = v) ∧ NumsOk xs N
  | _, _ => False
theorem NumsOk.snoc {x : List UInt8} {n : Int} (h : ∀ v, numP x = some v → n = v) : ∀ {xs : List (List UInt8)} {N : List Int}, NumsOk xs N → NumsOk (xs ++ [x]) (N ++ [n])
  | [], [], _ => ⟨h, trivial⟩
  | _ :: _, _ :: _, ⟨h1, h2⟩ => ⟨h1, NumsOk.snoc h h2⟩
  | [], _ :: _, h => h.elim
  | _ :: _, [], h => h.elim
theorem NumsOk.length : ∀ {xs : List (List UInt8)} {N : List Int}, NumsOk xs N → N.length = xs.length
  | [], [], _ => rfl
  | _ :: _, _ :: _, ⟨_, h2⟩ => by simp [NumsOk.length h2]
  | [], _ :: _, h => h.elim
  | _ :: _, [], h => h.elim
def isNum (x : List UInt8) : Bool := (numP x).isSome
theorem nums_ok : ∀ {xs : List (List UInt8)} {N : List Int}, NumsOk xs N → nums xs = if xs.all isNum = true then some N else none
  | [], [], _ => rfl
  | x :: xs, n :: N, ⟨h1, h2⟩ => by
    unfold nums
    rw [nums_ok h2, List.all_cons]
    cases hx : numP x with
    | none =>
      have : isNum x = false := by unfold isNum; rw [hx]; rfl
      rw [this]
      rfl
    | some v =>
      have : isNum x = true := by unfold isNum; rw [hx]; rfl
      rw [this, ← h1 v hx, Bool.true_and]
      by_cases ha : xs.all isNum = true
      · rw [if_pos ha, if_pos ha]
      · rw [if_neg ha, if_neg ha]
  | [], _ :: _, h => h.elim
  | _ :: _, [], h => h.elim
theorem numP_is {x : List UInt8} {n : Int} (h : ∀ v, numP x = some v → n = v) : numP x = if isNum x = true then some n else none := by
  unfold isNum
  cases hx : numP x with
  | none => rfl
  | some v => rw [h v hx]; rfl
end IH

/- Layer 27 in plain Lean: the document's example. No condition. -/
namespace IH
set_option maxRecDepth 100000

/-- "GET / HTTP/1.1", CR, LF -/
def ex27B : List UInt8 := [71, 69, 84, 32, 47, 32, 72, 84, 84, 80, 47, 49, 46, 49, 13, 10]
def ex27D : List Deed := [Deed.of 0, { Deed.of 1 with conn := 0, b := ex27B }, { Deed.of 9 with n := 0, keep := [false, true], torn := -1, part := 0 }]
/-- "open", "client 0 ..", "crash 0 01 -1 0" -/
def ex27S : List UInt8 := [111, 112, 101, 110, 10, 99, 108, 105, 101, 110, 116, 32, 48, 32, 34, 71, 69, 84, 32, 47, 32, 72, 84, 84, 80, 47, 49, 46, 49, 92, 114, 92, 110, 34, 10, 99, 114, 97, 115, 104, 32, 48, 32, 48, 49, 32, 45, 49, 32, 48, 10]
theorem ex27_print : scriptOf ex27D = ex27S := by decide +kernel
theorem ex27_ok : ∀ d ∈ ex27D, OkD d := by
  have z : inI 0 := by decide
  have m : inI (-1) := by decide
  intro d hd
  simp only [ex27D, List.mem_cons, List.not_mem_nil, or_false] at hd
  rcases hd with rfl | rfl | rfl
  · exact ⟨by decide, by decide, rfl, z, z, z, z, by simp [Deed.of]⟩
  · exact ⟨by decide, by decide, rfl, z, z, z, z, by simp [Deed.of]⟩
  · exact ⟨by decide, by decide, rfl, z, z, m, z, by simp [Deed.of]⟩
theorem ex27_parse : scriptL ex27S = (ex27D, 3, 0) := by
  have := script_print ex27_ok (by decide) (by rw [ex27_print]; decide)
  rw [ex27_print] at this
  exact this
end IH

/- Layer 2 in plain Lean: the calendar. No program in sight; no condition. -/
namespace IH

def leapB (y : Int) : Bool := y % 4 == 0 && (!(y % 100 == 0) || y % 400 == 0)
def leapN (y : Int) : Int := if y % 4 = 0 ∧ (¬ y % 100 = 0 ∨ y % 400 = 0) then 1 else 0
/-- How many days lie ahead of a year, from 1970 on. -/
def dby (y : Int) : Int := 365 * (y - 1970) + (y - 1) / 4 - 492 - ((y - 1) / 100 - 19) + (y - 1) / 400 - 4
def mlen (y m : Int) : Int := if m = 2 then 28 + leapN y else if m = 4 ∨ m = 6 ∨ m = 9 ∨ m = 11 then 30 else 31
/-- How many days of a year lie ahead of a month. -/
def cum (y m : Int) : Int :=
  if m ≤ 1 then 0 else if m = 2 then 31 else if m = 3 then 59 + leapN y else if m = 4 then 90 + leapN y else if m = 5 then 120 + leapN y else if m = 6 then 151 + leapN y
  else if m = 7 then 181 + leapN y else if m = 8 then 212 + leapN y else if m = 9 then 243 + leapN y else if m = 10 then 273 + leapN y else if m = 11 then 304 + leapN y else if m = 12 then 334 + leapN y else 365 + leapN y

theorem leapB_iff (y : Int) : leapB y = true ↔ leapN y = 1 := by
  unfold leapB leapN
  by_cases h1 : y % 4 = 0 <;> by_cases h2 : y % 100 = 0 <;> by_cases h3 : y % 400 = 0 <;> simp [h1, h2, h3]
theorem leapN_01 (y : Int) : leapN y = 0 ∨ leapN y = 1 := by unfold leapN; split <;> simp
theorem leapB_val (y : Int) : leapN y = if leapB y = true then 1 else 0 := by
  have h := leapB_iff y
  have h2 := leapN_01 y
  split
  · rename_i hb; exact h.1 hb
  · rename_i hb; rcases h2 with h2 | h2
    · exact h2
    · exact absurd (h.2 h2) hb
theorem dby_succ (y : Int) : dby (y + 1) = dby y + 365 + leapN y := by
  unfold dby leapN
  split <;> omega
theorem dby_400 (y : Int) : dby (y + 400) = dby y + 146097 := by unfold dby; omega
theorem dby_mono (a b : Int) (h : a ≤ b) : dby a ≤ dby b := by unfold dby; omega
theorem dby_1970 : dby 1970 = 0 := by decide
theorem leapN_400 (y : Int) : leapN (y + 400) = leapN y := by
  have h1 : (y + 400) % 4 = y % 4 := by omega
  have h2 : (y + 400) % 100 = y % 100 := by omega
  have h3 : (y + 400) % 400 = y % 400 := by omega
  unfold leapN
  rw [h1, h2, h3]
theorem mlen_bd (y m : Int) : 28 ≤ mlen y m ∧ mlen y m ≤ 31 := by
  have := leapN_01 y
  unfold mlen
  split
  · omega
  · split <;> omega
theorem cum_succ (y m : Int) (h1 : 1 ≤ m) (h2 : m ≤ 12) : cum y (m + 1) = cum y m + mlen y m := by
  have hm : m = 1 ∨ m = 2 ∨ m = 3 ∨ m = 4 ∨ m = 5 ∨ m = 6 ∨ m = 7 ∨ m = 8 ∨ m = 9 ∨ m = 10 ∨ m = 11 ∨ m = 12 := by omega
  rcases hm with rfl | rfl | rfl | rfl | rfl | rfl | rfl | rfl | rfl | rfl | rfl | rfl <;> simp [cum, mlen] <;> omega
theorem cum_bd (y m : Int) : 0 ≤ cum y m ∧ cum y m ≤ 365 + leapN y := by
  have hl := leapN_01 y
  have hm : m ≤ 1 ∨ m = 2 ∨ m = 3 ∨ m = 4 ∨ m = 5 ∨ m = 6 ∨ m = 7 ∨ m = 8 ∨ m = 9 ∨ m = 10 ∨ m = 11 ∨ m = 12 ∨ 13 ≤ m := by omega
  rcases hm with h | rfl | rfl | rfl | rfl | rfl | rfl | rfl | rfl | rfl | rfl | rfl | h
  · unfold cum; rw [if_pos h]; omega
  all_goals first
    | (simp [cum]; omega)
    | (unfold cum; rw [if_neg (by omega), if_neg (by omega), if_neg (by omega), if_neg (by omega), if_neg (by omega), if_neg (by omega), if_neg (by omega), if_neg (by omega), if_neg (by omega), if_neg (by omega), if_neg (by omega), if_neg (by omega)]; omega)
theorem cum_mono (y a b : Int) (h0 : 1 ≤ a) (h : a ≤ b) (h1 : b ≤ 13) : cum y a ≤ cum y b := by
  obtain ⟨k, hk⟩ : ∃ k : Nat, b = a + k := ⟨(b - a).toNat, by omega⟩
  subst hk
  induction k with
  | zero => simp
  | succ k ih =>
    have e : a + ((k + 1 : Nat) : Int) = (a + k) + 1 := by omega
    rw [e, cum_succ y (a + k) (by omega) (by omega)]
    have := ih (by omega) (by omega)
    have := mlen_bd y (a + k)
    omega
theorem cum_13 (y : Int) : cum y 13 = 365 + leapN y := by simp [cum]
theorem cum_1 (y : Int) : cum y 1 = 0 := by simp [cum]

/-- The n-th day from 1970 on is the date y, m, d. -/
structure Civ (n y m d : Int) : Prop where
  hm1 : 1 ≤ m
  hm2 : m ≤ 12
  hd1 : 1 ≤ d
  hd2 : d ≤ mlen y m
  hn : n = dby y + cum y m + d - 1

theorem Civ.year {n y m d : Int} (h : Civ n y m d) : dby y ≤ n ∧ n < dby (y + 1) := by
  obtain ⟨h1, h2, h3, h4, h5⟩ := h
  have a := cum_bd y m
  have b := cum_succ y m h1 h2
  have c := cum_mono y (m + 1) 13 (by omega) (by omega) (by omega)
  have e := cum_13 y
  have f := dby_succ y
  omega
theorem Civ.uniq {n y m d y' m' d' : Int} (h : Civ n y m d) (h' : Civ n y' m' d') : y = y' ∧ m = m' ∧ d = d' := by
  have a := h.year
  have a' := h'.year
  have hy : y = y' := by
    rcases Int.lt_trichotomy y y' with hl | he | hg
    · have := dby_mono (y + 1) y' (by omega); omega
    · exact he
    · have := dby_mono (y' + 1) y (by omega); omega
  subst hy
  obtain ⟨h1, h2, h3, h4, h5⟩ := h
  obtain ⟨h1', h2', h3', h4', h5'⟩ := h'
  have hm : m = m' := by
    rcases Int.lt_trichotomy m m' with hl | he | hg
    · have b := cum_succ y m h1 h2
      have c := cum_mono y (m + 1) m' (by omega) (by omega) (by omega)
      omega
    · exact he
    · have b := cum_succ y m' h1' h2'
      have c := cum_mono y (m' + 1) m (by omega) (by omega) (by omega)
      omega
  subst hm
  exact ⟨rfl, rfl, by omega⟩

/-- The date of a day: whichever it is. -/
noncomputable def civOf (n : Int) : Int × Int × Int := Classical.epsilon fun p => Civ n p.1 p.2.1 p.2.2
theorem Civ.civOf {n y m d : Int} (h : Civ n y m d) : IH.civOf n = (y, m, d) := by
  have hs : Civ n (IH.civOf n).1 (IH.civOf n).2.1 (IH.civOf n).2.2 := Classical.epsilon_spec (p := fun p : Int × Int × Int => Civ n p.1 p.2.1 p.2.2) ⟨(y, m, d), h⟩
  obtain ⟨a, b, c⟩ := hs.uniq h
  rw [Prod.ext_iff, Prod.ext_iff]
  exact ⟨a, b, c⟩

/-- A day is followed by the calendar's next. -/
theorem Civ.next {n y m d u v w : Int} (h : Civ n y m d) (h' : Civ (n + 1) u v w) : (u = y ∧ v = m ∧ w = d + 1) ∨ (w = 1 ∧ ((u = y ∧ v = m + 1) ∨ (u = y + 1 ∧ v = 1 ∧ m = 12))) := by
  have h0 := h
  obtain ⟨h1, h2, h3, h4, h5⟩ := h
  have l1 := leapN_01 (y + 1)
  by_cases hd : d + 1 ≤ mlen y m
  · have := h'.uniq (y' := y) (m' := m) (d' := d + 1) ⟨h1, h2, by omega, hd, by omega⟩
    exact .inl this
  · by_cases hm : m + 1 ≤ 12
    · have b := cum_succ y m h1 h2
      have := h'.uniq (y' := y) (m' := m + 1) (d' := 1) ⟨by omega, hm, by omega, by have := mlen_bd y (m + 1); omega, by omega⟩
      exact .inr ⟨this.2.2, .inl ⟨this.1, this.2.1⟩⟩
    · obtain rfl : m = 12 := by omega
      have b := cum_succ y 12 h1 h2
      rw [show (12 : Int) + 1 = 13 from rfl] at b
      have c := cum_13 y
      have e := dby_succ y
      have f := cum_1 (y + 1)
      have := h'.uniq (y' := y + 1) (m' := 1) (d' := 1) ⟨by omega, by omega, by omega, by have := mlen_bd (y + 1) 1; omega, by rw [f]; omega⟩
      exact .inr ⟨this.2.2, .inr ⟨this.1, this.2.1, rfl⟩⟩

/-- Days of the week, from Thursday on. -/
def dayN (i : Int) : List UInt8 := if i = 0 then [84, 104, 117, 114, 115, 100, 97, 121] else if i = 1 then [70, 114, 105, 100, 97, 121] else if i = 2 then [83, 97, 116, 117, 114, 100, 97, 121] else if i = 3 then [83, 117, 110, 100, 97, 121] else if i = 4 then [77, 111, 110, 100, 97, 121] else if i = 5 then [84, 117, 101, 115, 100, 97, 121] else [87, 101, 100, 110, 101, 115, 100, 97, 121]
/-- Months, from 1 on. -/
def monN (i : Int) : List UInt8 := if i = 1 then [74, 97, 110] else if i = 2 then [70, 101, 98] else if i = 3 then [77, 97, 114] else if i = 4 then [65, 112, 114] else if i = 5 then [77, 97, 121] else if i = 6 then [74, 117, 110] else if i = 7 then [74, 117, 108] else if i = 8 then [65, 117, 103] else if i = 9 then [83, 101, 112] else if i = 10 then [79, 99, 116] else if i = 11 then [78, 111, 118] else [68, 101, 99]
def dg (n : Int) : UInt8 := digC (n % 10).toNat
def d2 (n : Int) : List UInt8 := [dg (n / 10), dg n]
def d4 (n : Int) : List UInt8 := [dg (n / 1000), dg (n / 100), dg (n / 10), dg n]
def clockL (s : Int) : List UInt8 := d2 (s / 3600) ++ [58] ++ d2 (s / 60 % 60) ++ [58] ++ d2 (s % 60)
def gmt : List UInt8 := [32, 71, 77, 84]
def short2 (d : Int) : List UInt8 := if d < 10 then [32, dg d] else d2 d
/-- The three forms of a date, a day of the week (from Thursday on), a time of day. -/
def form0 (y m d w s : Int) : List UInt8 := (dayN w).take 3 ++ [44, 32] ++ d2 d ++ [32] ++ monN m ++ [32] ++ d4 y ++ [32] ++ clockL s ++ gmt
def form1 (y m d w s : Int) : List UInt8 := dayN w ++ [44, 32] ++ d2 d ++ [45] ++ monN m ++ [45] ++ d2 (y % 100) ++ [32] ++ clockL s ++ gmt
def form2 (y m d w s : Int) : List UInt8 := (dayN w).take 3 ++ [32] ++ monN m ++ [32] ++ short2 d ++ [32] ++ clockL s ++ [32] ++ d4 y
def formK (k : Int) (y m d w s : Int) : List UInt8 := if k = 0 then form0 y m d w s else if k = 1 then form1 y m d w s else form2 y m d w s

/-- A number's digits, with noughts ahead. -/
def padded (size : Nat) (n : Nat) : List UInt8 := List.replicate (size - (digs 10 64 n).length) 48 ++ digs 10 64 n
theorem padded2_all : (List.range 100).all (fun n => padded 2 n == d2 n) = true := by decide +kernel
theorem padded2 (n : Nat) (h : n < 100) : padded 2 n = d2 n := eq_of_beq (List.all_eq_true.1 padded2_all n (List.mem_range.2 h))
theorem digC_dg (k n : Nat) (h : k = n % 10) : digC k = dg n := by
  subst h
  unfold dg
  congr 1
theorem padded4 (n : Nat) (h : n < 10000) : padded 4 n = d4 n := by
  have e1 : (n : Int) / 10 = ((n / 10 : Nat) : Int) := by omega
  have e2 : (n : Int) / 100 = ((n / 100 : Nat) : Int) := by omega
  have e3 : (n : Int) / 1000 = ((n / 1000 : Nat) : Int) := by omega
  unfold d4 padded
  rw [e1, e2, e3]
  have z : digC 0 = 48 := rfl
  by_cases h1 : n < 10
  · rw [digs_small 10 n h1, digC_dg n n (by omega)]
    rw [← digC_dg 0 (n / 10) (by omega), ← digC_dg 0 (n / 100) (by omega), ← digC_dg 0 (n / 1000) (by omega), z]
    rfl
  · rw [digs_step 10 (by omega) n (by omega) (by omega), digC_dg (n % 10) n rfl]
    by_cases h2 : n < 100
    · rw [digs_small 10 (n / 10) (by omega), digC_dg (n / 10) (n / 10) (by omega)]
      rw [← digC_dg 0 (n / 100) (by omega), ← digC_dg 0 (n / 1000) (by omega), z]
      rfl
    · rw [digs_step 10 (by omega) (n / 10) (by omega) (by omega), digC_dg (n / 10 % 10) (n / 10) rfl, Nat.div_div_eq_div_mul]
      by_cases h3 : n < 1000
      · rw [digs_small 10 (n / (10 * 10)) (by omega), digC_dg (n / (10 * 10)) (n / 100) (by omega)]
        rw [← digC_dg 0 (n / 1000) (by omega), z]
        rfl
      · rw [digs_step 10 (by omega) (n / (10 * 10)) (by omega) (by omega), digC_dg (n / (10 * 10) % 10) (n / 100) (by omega), Nat.div_div_eq_div_mul]
        rw [digs_small 10 (n / (10 * 10 * 10)) (by omega), digC_dg (n / (10 * 10 * 10)) (n / 1000) (by omega)]
        rfl
end IH

/- Layer 2 in plain Lean: a form, read by its pieces, says its moment. No program in sight; no condition. -/
namespace IH

/-- The pieces of a text between the places of an octet. -/
def pieces (sep : UInt8) : List UInt8 → List (List UInt8)
  | [] => [[]]
  | c :: r => if c = sep then [] :: pieces sep r else match pieces sep r with
    | [] => [[c]]
    | p :: ps => (c :: p) :: ps

theorem pieces_ne (sep : UInt8) (l : List UInt8) : pieces sep l ≠ [] := by
  cases l with
  | nil => simp [pieces]
  | cons c r =>
    unfold pieces
    split
    · simp
    · split <;> simp
theorem pieces_one {sep : UInt8} {a : List UInt8} (h : ∀ c ∈ a, c ≠ sep) : pieces sep a = [a] := by
  induction a with
  | nil => rfl
  | cons c a ih =>
    unfold pieces
    rw [if_neg (h c (by simp)), ih fun x hx => h x (by simp [hx])]
theorem pieces_cut {sep : UInt8} {a : List UInt8} (h : ∀ c ∈ a, c ≠ sep) (b : List UInt8) : pieces sep (a ++ sep :: b) = a :: pieces sep b := by
  induction a with
  | nil => simp [pieces]
  | cons c a ih =>
    rw [List.cons_append]
    conv => lhs; unfold pieces
    rw [if_neg (h c (by simp)), ih fun x hx => h x (by simp [hx])]
theorem pieces_count (sep : UInt8) (l : List UInt8) : (pieces sep l).length = l.count sep + 1 := by
  induction l with
  | nil => simp [pieces]
  | cons c r ih =>
    unfold pieces
    split
    · rename_i h; subst h; simp [ih]
    · rename_i h
      rw [List.count_cons_of_ne h]
      split
      · rename_i h0; exact absurd h0 (pieces_ne sep r)
      · rename_i p ps h0; rw [h0] at ih; simpa using ih

def digitsD (l : List UInt8) : Int := if (numR 10 9999 l).2 = 0 then (numR 10 9999 l).1 else -1
theorem accN_le (l : List UInt8) (n m : Int) (h : accN 10 9999 n l = some m) (h0 : 0 ≤ n) (h1 : n ≤ 9999) : 0 ≤ m ∧ m ≤ 9999 := accN_bound 10 (by omega) 9999 n m l h h0 h1
theorem numR_bd (l : List UInt8) (h : (numR 10 9999 l).2 = 0) : 0 ≤ (numR 10 9999 l).1 ∧ (numR 10 9999 l).1 ≤ 9999 := by
  unfold numR at *
  by_cases h1 : l = []
  · rw [if_pos h1] at h; simp at h
  · rw [if_neg h1] at h ⊢
    by_cases h2 : badDig 10 l = true
    · rw [if_pos h2] at h; simp at h
    · rw [if_neg h2, if_neg (by omega)] at h ⊢
      cases hA : accN 10 9999 0 l with
      | none => rw [hA] at h; simp [accR] at h
      | some m => have := accN_le l 0 m hA (by omega) (by omega); simp only [accR]; exact this
theorem digitsD_bd (l : List UInt8) : -1 ≤ digitsD l ∧ digitsD l ≤ 9999 := by
  unfold digitsD
  by_cases h : (numR 10 9999 l).2 = 0
  · rw [if_pos h]; have := numR_bd l h; omega
  · rw [if_neg h]; omega
theorem dig_dg (n : Int) : (dig (dg n) : Int) = n % 10 := by
  unfold dg
  have : 0 ≤ n % 10 ∧ n % 10 < 10 := by omega
  rw [dig_digC _ (by omega)]
  omega
theorem dg_bd (n : Int) : 48 ≤ (dg n).toNat ∧ (dg n).toNat ≤ 57 := by
  unfold dg digC
  have : 0 ≤ n % 10 ∧ n % 10 < 10 := by omega
  rw [if_pos (by omega)]
  rw [UInt8.toNat_ofNat']
  omega
theorem dg_ne (n : Int) (x : UInt8) (h : x.toNat < 48 ∨ 57 < x.toNat) : dg n ≠ x := by
  rintro rfl
  have := dg_bd n
  omega
theorem badDig_dg (n : Int) (l : List UInt8) : badDig 10 (dg n :: l) = badDig 10 l := by
  have := dig_dg n
  have h2 : 0 ≤ n % 10 ∧ n % 10 < 10 := by omega
  unfold badDig
  rw [List.any_cons, decide_eq_false (by omega), Bool.false_or]
theorem accN_dg (n a : Int) (l : List UInt8) (h0 : 0 ≤ a) (h1 : a ≤ 999) : accN 10 9999 a (dg n :: l) = accN 10 9999 (a * 10 + n % 10) l := by
  have h := dig_dg n
  have h2 : 0 ≤ n % 10 ∧ n % 10 < 10 := by omega
  conv => lhs; unfold accN
  rw [h]
  rw [if_neg]
  · rfl
  · intro hc
    rcases hc with hc | hc
    · omega
    · have : (((10 : Nat) : Int)) = 10 := rfl
      rw [this] at hc
      omega
theorem digits1 (n : Int) (h0 : 0 ≤ n) (h1 : n < 10) : digitsD [dg n] = n := by
  have e : numR 10 9999 [dg n] = (n, 0) := by
    unfold numR
    rw [if_neg (by simp), badDig_dg, accN_dg n 0 [] (by omega) (by omega)]
    simp [badDig, accN, accR]; omega
  unfold digitsD; rw [e]; rfl
theorem digits2 (n : Int) (h0 : 0 ≤ n) (h1 : n < 100) : digitsD (d2 n) = n := by
  have e : numR 10 9999 (d2 n) = (n, 0) := by
    unfold numR d2
    rw [if_neg (by simp), badDig_dg, badDig_dg, accN_dg _ 0 _ (by omega) (by omega), accN_dg _ _ _ (by omega) (by omega)]
    simp [badDig, accN, accR]; omega
  unfold digitsD; rw [e]; rfl
theorem digits4 (n : Int) (h0 : 0 ≤ n) (h1 : n < 10000) : digitsD (d4 n) = n := by
  have e : numR 10 9999 (d4 n) = (n, 0) := by
    unfold numR d4
    rw [if_neg (by simp), badDig_dg, badDig_dg, badDig_dg, badDig_dg, accN_dg _ 0 _ (by omega) (by omega), accN_dg _ _ _ (by omega) (by omega), accN_dg _ _ _ (by omega) (by omega), accN_dg _ _ _ (by omega) (by omega)]
    simp [badDig, accN, accR]; omega
  unfold digitsD; rw [e]; rfl

/-- A time of day, read. -/
def timedL (s : List UInt8) : Option (Int × Int × Int) :=
  match pieces 58 s with
  | [a, b, c] => if s.length = 8 ∧ a.length = 2 ∧ b.length = 2 ∧ 0 ≤ digitsD a ∧ digitsD a < 24 ∧ 0 ≤ digitsD b ∧ digitsD b < 60 ∧ 0 ≤ digitsD c ∧ digitsD c < 60 then some (digitsD a, digitsD b, digitsD c) else none
  | _ => none
/-- A month's number, by its name; 0: it is none. -/
def monOf (l : List UInt8) : Int := match (List.range 12).find? (fun k : Nat => decide (monN ((k : Int) + 1) = l)) with
  | some k => (k : Int) + 1
  | none => 0
def century (l : List UInt8) : Int := if l.length = 2 ∧ 0 ≤ digitsD l then (if digitsD l < 70 then digitsD l + 2000 else digitsD l + 1900) else digitsD l
def datedL (d m y : List UInt8) : Option (Int × Int × Int) :=
  if 1 ≤ monOf m ∧ 1970 ≤ century y ∧ 1 ≤ digitsD d ∧ digitsD d ≤ mlen (century y) (monOf m) then some (century y, monOf m, digitsD d) else none
def tryDT (d m y t : List UInt8) : Option ((Int × Int × Int) × (Int × Int × Int)) :=
  match datedL d m y, timedL t with
  | some a, some b => some (a, b)
  | _, _ => none
def partsL (s : List UInt8) : Option (Int × (Int × Int × Int) × (Int × Int × Int)) :=
  match pieces 32 s with
  | [_, b, c, _] => (match pieces 45 b with
    | [x, y, z] => (tryDT x y z c).map fun r => (1, r)
    | _ => none)
  | [_, b, c, d, e] => (tryDT c b e d).map fun r => (2, r)
  | [a, b, c, d, e, f] => if a.getLast? = some 44 ∧ (tryDT b c d e).isSome then (tryDT b c d e).map fun r => (0, r) else if c = [] then (tryDT d b f e).map fun r => (2, r) else none
  | _ => none

/-- y, m, d is the date of a moment that has forms. -/
structure Moment (mt y m d : Int) : Prop where
  h0 : 0 ≤ mt
  h1 : mt ≤ 253402300799
  civ : Civ (mt / 86400) y m d
def formOf (k mt y m d : Int) : List UInt8 := formK k y m d (mt / 86400 % 7) (mt % 86400)

theorem Moment.year {mt y m d : Int} (h : Moment mt y m d) : 1970 ≤ y ∧ y ≤ 9999 := by
  obtain ⟨h0, h1, h2⟩ := h
  have h3 := h2.year
  have e0 : dby 1970 = 0 := by decide
  have e1 : dby 10000 = 2932897 := by decide
  constructor
  · rcases Int.lt_or_le y 1970 with h | h
    · have := dby_mono (y + 1) 1970 (by omega); omega
    · exact h
  · rcases Int.lt_or_le 9999 y with h | h
    · have := dby_mono 10000 y (by omega); omega
    · omega
theorem Moment.uniq {mt y m d y' m' d' : Int} (h : Moment mt y m d) (h' : Moment mt y' m' d') : y = y' ∧ m = m' ∧ d = d' := h.civ.uniq h'.civ

theorem mem_dayN (w : Int) : ∀ c ∈ dayN w, 65 ≤ c.toNat := by
  have h : w = 0 ∨ w = 1 ∨ w = 2 ∨ w = 3 ∨ w = 4 ∨ w = 5 ∨ (w ≠ 0 ∧ w ≠ 1 ∧ w ≠ 2 ∧ w ≠ 3 ∧ w ≠ 4 ∧ w ≠ 5) := by omega
  rcases h with rfl | rfl | rfl | rfl | rfl | rfl | ⟨h0, h1, h2, h3, h4, h5⟩ <;> first | decide | (unfold dayN; rw [if_neg h0, if_neg h1, if_neg h2, if_neg h3, if_neg h4, if_neg h5]; decide)
theorem monN_cases (m : Int) (h1 : 1 ≤ m) (h2 : m ≤ 12) (P : Int → Prop) (p1 : P 1) (p2 : P 2) (p3 : P 3) (p4 : P 4) (p5 : P 5) (p6 : P 6) (p7 : P 7) (p8 : P 8) (p9 : P 9) (p10 : P 10) (p11 : P 11) (p12 : P 12) : P m := by
  have hm : m = 1 ∨ m = 2 ∨ m = 3 ∨ m = 4 ∨ m = 5 ∨ m = 6 ∨ m = 7 ∨ m = 8 ∨ m = 9 ∨ m = 10 ∨ m = 11 ∨ m = 12 := by omega
  rcases hm with rfl | rfl | rfl | rfl | rfl | rfl | rfl | rfl | rfl | rfl | rfl | rfl <;> assumption
theorem mem_monN (m : Int) (h1 : 1 ≤ m) (h2 : m ≤ 12) : ∀ c ∈ monN m, 65 ≤ c.toNat := by
  refine monN_cases m h1 h2 (fun m => ∀ c ∈ monN m, 65 ≤ c.toNat) ?_ ?_ ?_ ?_ ?_ ?_ ?_ ?_ ?_ ?_ ?_ ?_ <;> decide
theorem monOf_monN (m : Int) (h1 : 1 ≤ m) (h2 : m ≤ 12) : monOf (monN m) = m := by
  refine monN_cases m h1 h2 (fun m => monOf (monN m) = m) ?_ ?_ ?_ ?_ ?_ ?_ ?_ ?_ ?_ ?_ ?_ ?_ <;> decide +kernel
theorem monOf_bd (l : List UInt8) : 0 ≤ monOf l ∧ monOf l ≤ 12 := by
  unfold monOf
  cases h : (List.range 12).find? (fun k : Nat => decide (monN ((k : Int) + 1) = l)) with
  | none => simp
  | some k =>
    have := List.mem_range.1 (List.mem_of_find?_eq_some h)
    simp only
    omega
theorem monOf_inv (l : List UInt8) (h1 : 1 ≤ monOf l) : l = monN (monOf l) := by
  unfold monOf at *
  cases h : (List.range 12).find? (fun k : Nat => decide (monN ((k : Int) + 1) = l)) with
  | none => rw [h] at h1; simp at h1
  | some k =>
    have := List.find?_some h
    simp only [decide_eq_true_eq] at this
    simp only
    exact this.symm

theorem mem_d2 (n : Int) : ∀ c ∈ d2 n, 48 ≤ c.toNat ∧ c.toNat ≤ 57 := by
  intro c hc
  simp [d2] at hc
  rcases hc with rfl | rfl <;> exact dg_bd _
theorem mem_d4 (n : Int) : ∀ c ∈ d4 n, 48 ≤ c.toNat ∧ c.toNat ≤ 57 := by
  intro c hc
  simp [d4] at hc
  rcases hc with rfl | rfl | rfl | rfl <;> exact dg_bd _
theorem ne_of_toNat {c x : UInt8} (h : c.toNat ≠ x.toNat) : c ≠ x := fun e => h (by rw [e])
theorem mem_clock (s : Int) : ∀ c ∈ clockL s, 48 ≤ c.toNat ∧ c.toNat ≤ 58 := by
  intro c hc
  simp only [clockL, List.mem_append, List.mem_singleton] at hc
  rcases hc with (((hc | rfl) | hc) | rfl) | hc
  · have := mem_d2 _ c hc; omega
  · decide
  · have := mem_d2 _ c hc; omega
  · decide
  · have := mem_d2 _ c hc; omega

theorem timed_clock (s : Int) (h0 : 0 ≤ s) (h1 : s < 86400) : timedL (clockL s) = some (s / 3600, s / 60 % 60, s % 60) := by
  have e : clockL s = d2 (s / 3600) ++ 58 :: (d2 (s / 60 % 60) ++ 58 :: d2 (s % 60)) := by simp [clockL]
  have hp : pieces 58 (clockL s) = [d2 (s / 3600), d2 (s / 60 % 60), d2 (s % 60)] := by
    have q : ∀ n, ∀ c ∈ d2 n, c ≠ 58 := fun n c hc => ne_of_toNat (by have := mem_d2 n c hc; have e : (58 : UInt8).toNat = 58 := rfl; omega)
    rw [e, pieces_cut (q _), pieces_cut (q _), pieces_one (q _)]
  unfold timedL
  rw [hp]
  simp only
  rw [digits2 (s / 3600) (by omega) (by omega), digits2 (s / 60 % 60) (by omega) (by omega), digits2 (s % 60) (by omega) (by omega)]
  rw [if_pos ⟨by simp [clockL, d2], by simp [d2], by simp [d2], by omega, by omega, by omega, by omega, by omega, by omega⟩]

theorem dated_of (d m y : Int) (dl yl : List UInt8) (hd : digitsD dl = d) (hy : century yl = y) (h1 : 1 ≤ m) (h2 : m ≤ 12) (h3 : 1970 ≤ y) (h4 : 1 ≤ d) (h5 : d ≤ mlen y m) : datedL dl (monN m) yl = some (y, m, d) := by
  unfold datedL
  rw [monOf_monN m h1 h2, hy, hd, if_pos ⟨h1, h3, h4, h5⟩]
theorem century4 (y : Int) (h0 : 0 ≤ y) (h1 : y < 10000) : century (d4 y) = y := by
  unfold century
  rw [digits4 y h0 h1, if_neg (by simp [d4])]
theorem century2 (y : Int) (h0 : 1970 ≤ y) (h1 : y ≤ 2069) : century (d2 (y % 100)) = y := by
  unfold century
  rw [digits2 (y % 100) (by omega) (by omega), if_pos ⟨by simp [d2], by omega⟩]
  split <;> omega
theorem century2_le (y : Int) : century (d2 (y % 100)) ≤ 2069 := by
  unfold century
  rw [digits2 (y % 100) (by omega) (by omega), if_pos ⟨by simp [d2], by omega⟩]
  split <;> omega

theorem pieces_form0 (y m d w s : Int) (h1 : 1 ≤ m) (h2 : m ≤ 12) : pieces 32 (form0 y m d w s) = [(dayN w).take 3 ++ [44], d2 d, monN m, d4 y, clockL s, [71, 77, 84]] := by
  have e32 : (32 : UInt8).toNat = 32 := rfl
  have e : form0 y m d w s = ((dayN w).take 3 ++ [44]) ++ 32 :: (d2 d ++ 32 :: (monN m ++ 32 :: (d4 y ++ 32 :: (clockL s ++ 32 :: [71, 77, 84])))) := by simp [form0, gmt]
  have qd : ∀ c ∈ (dayN w).take 3 ++ [44], c ≠ 32 := by
    intro c hc
    rcases List.mem_append.1 hc with hc | hc
    · have := mem_dayN w c (List.mem_of_mem_take hc)
      exact ne_of_toNat (by omega)
    · simp at hc; subst hc; decide
  have q2 : ∀ n, ∀ c ∈ d2 n, c ≠ 32 := fun n c hc => ne_of_toNat (by have := mem_d2 n c hc; omega)
  have q4 : ∀ n, ∀ c ∈ d4 n, c ≠ 32 := fun n c hc => ne_of_toNat (by have := mem_d4 n c hc; omega)
  have qm : ∀ c ∈ monN m, c ≠ 32 := fun c hc => ne_of_toNat (by have := mem_monN m h1 h2 c hc; omega)
  have qc : ∀ c ∈ clockL s, c ≠ 32 := fun c hc => ne_of_toNat (by have := mem_clock s c hc; omega)
  have qg : ∀ c ∈ ([71, 77, 84] : List UInt8), c ≠ 32 := by decide
  rw [e, pieces_cut qd, pieces_cut (q2 _), pieces_cut qm, pieces_cut (q4 _), pieces_cut qc, pieces_one qg]
theorem pieces_form1 (y m d w s : Int) (h1 : 1 ≤ m) (h2 : m ≤ 12) : pieces 32 (form1 y m d w s) = [dayN w ++ [44], d2 d ++ [45] ++ monN m ++ [45] ++ d2 (y % 100), clockL s, [71, 77, 84]] ∧ pieces 45 (d2 d ++ [45] ++ monN m ++ [45] ++ d2 (y % 100)) = [d2 d, monN m, d2 (y % 100)] := by
  have e32 : (32 : UInt8).toNat = 32 := rfl
  have e45 : (45 : UInt8).toNat = 45 := rfl
  have e : form1 y m d w s = (dayN w ++ [44]) ++ 32 :: ((d2 d ++ [45] ++ monN m ++ [45] ++ d2 (y % 100)) ++ 32 :: (clockL s ++ 32 :: [71, 77, 84])) := by simp [form1, gmt]
  have e2 : d2 d ++ [45] ++ monN m ++ [45] ++ d2 (y % 100) = d2 d ++ 45 :: (monN m ++ 45 :: d2 (y % 100)) := by simp
  have qd : ∀ c ∈ dayN w ++ [44], c ≠ 32 := by
    intro c hc
    rcases List.mem_append.1 hc with hc | hc
    · have := mem_dayN w c hc
      exact ne_of_toNat (by omega)
    · simp at hc; subst hc; decide
  have q2 : ∀ n, ∀ c ∈ d2 n, c ≠ 32 ∧ c ≠ 45 := fun n c hc => ⟨ne_of_toNat (by have := mem_d2 n c hc; omega), ne_of_toNat (by have := mem_d2 n c hc; omega)⟩
  have qm : ∀ c ∈ monN m, c ≠ 32 ∧ c ≠ 45 := fun c hc => ⟨ne_of_toNat (by have := mem_monN m h1 h2 c hc; omega), ne_of_toNat (by have := mem_monN m h1 h2 c hc; omega)⟩
  have qc : ∀ c ∈ clockL s, c ≠ 32 := fun c hc => ne_of_toNat (by have := mem_clock s c hc; omega)
  have qg : ∀ c ∈ ([71, 77, 84] : List UInt8), c ≠ 32 := by decide
  have qb : ∀ c ∈ d2 d ++ [45] ++ monN m ++ [45] ++ d2 (y % 100), c ≠ 32 := by
    intro c hc
    simp only [List.mem_append, List.mem_singleton] at hc
    rcases hc with (((hc | rfl) | hc) | rfl) | hc
    · exact (q2 _ c hc).1
    · decide
    · exact (qm c hc).1
    · decide
    · exact (q2 _ c hc).1
  constructor
  · rw [e, pieces_cut qd, pieces_cut qb, pieces_cut qc, pieces_one qg]
  · rw [e2, pieces_cut (fun c hc => (q2 _ c hc).2), pieces_cut (fun c hc => (qm c hc).2), pieces_one (fun c hc => (q2 _ c hc).2)]
theorem pieces_form2 (y m d w s : Int) (h1 : 1 ≤ m) (h2 : m ≤ 12) : pieces 32 (form2 y m d w s) = if d < 10 then [(dayN w).take 3, monN m, [], [dg d], clockL s, d4 y] else [(dayN w).take 3, monN m, d2 d, clockL s, d4 y] := by
  have e32 : (32 : UInt8).toNat = 32 := rfl
  have qd : ∀ c ∈ (dayN w).take 3, c ≠ 32 := by
    intro c hc
    have := mem_dayN w c (List.mem_of_mem_take hc)
    exact ne_of_toNat (by omega)
  have q1 : ∀ c ∈ [dg d], c ≠ 32 := by
    intro c hc
    simp at hc; subst hc
    exact ne_of_toNat (by have := dg_bd d; omega)
  have q0 : ∀ c ∈ ([] : List UInt8), c ≠ 32 := by simp
  have q2 : ∀ n, ∀ c ∈ d2 n, c ≠ 32 := fun n c hc => ne_of_toNat (by have := mem_d2 n c hc; omega)
  have q4 : ∀ n, ∀ c ∈ d4 n, c ≠ 32 := fun n c hc => ne_of_toNat (by have := mem_d4 n c hc; omega)
  have qm : ∀ c ∈ monN m, c ≠ 32 := fun c hc => ne_of_toNat (by have := mem_monN m h1 h2 c hc; omega)
  have qc : ∀ c ∈ clockL s, c ≠ 32 := fun c hc => ne_of_toNat (by have := mem_clock s c hc; omega)
  by_cases hd : d < 10
  · have e : form2 y m d w s = (dayN w).take 3 ++ 32 :: (monN m ++ 32 :: ([] ++ 32 :: ([dg d] ++ 32 :: (clockL s ++ 32 :: d4 y)))) := by simp [form2, short2, hd]
    rw [e, pieces_cut qd, pieces_cut qm, pieces_cut q0, pieces_cut q1, pieces_cut qc, pieces_one (q4 _), if_pos hd]
  · have e : form2 y m d w s = (dayN w).take 3 ++ 32 :: (monN m ++ 32 :: (d2 d ++ 32 :: (clockL s ++ 32 :: d4 y))) := by simp [form2, short2, hd]
    rw [e, pieces_cut qd, pieces_cut qm, pieces_cut (q2 _), pieces_cut qc, pieces_one (q4 _), if_neg hd]

theorem tryDT_of {d m y t : List UInt8} {a b : Int × Int × Int} (h1 : datedL d m y = some a) (h2 : timedL t = some b) : tryDT d m y t = some (a, b) := by unfold tryDT; rw [h1, h2]

/-- A form is read as what it was made of. -/
theorem parts_form {k mt y m d : Int} (h : Moment mt y m d) (hk : k = 0 ∨ (k = 1 ∧ y ≤ 2069) ∨ k = 2) : partsL (formOf k mt y m d) = some (k, (y, m, d), (mt % 86400 / 3600, mt % 86400 / 60 % 60, mt % 86400 % 60)) := by
  obtain ⟨hy0, hy1⟩ := h.year
  obtain ⟨h0, h1, hm1, hm2, hd1, hd2, hn⟩ := h
  have hml := mlen_bd y m
  have ht := timed_clock (mt % 86400) (by omega) (by omega)
  rcases hk with rfl | ⟨rfl, hy⟩ | rfl
  · have hD := dated_of d m y (d2 d) (d4 y) (digits2 d (by omega) (by omega)) (century4 y (by omega) (by omega)) hm1 hm2 hy0 hd1 hd2
    have e : formOf 0 mt y m d = form0 y m d (mt / 86400 % 7) (mt % 86400) := rfl
    unfold partsL
    rw [e, pieces_form0 _ _ _ _ _ hm1 hm2]
    simp only
    rw [tryDT_of hD ht, if_pos ⟨by simp, rfl⟩]
    rfl
  · have hD := dated_of d m y (d2 d) (d2 (y % 100)) (digits2 d (by omega) (by omega)) (century2 y hy0 hy) hm1 hm2 hy0 hd1 hd2
    have e : formOf 1 mt y m d = form1 y m d (mt / 86400 % 7) (mt % 86400) := rfl
    obtain ⟨p1, p2⟩ := pieces_form1 y m d (mt / 86400 % 7) (mt % 86400) hm1 hm2
    unfold partsL
    rw [e, p1]
    simp only
    rw [p2]
    simp only
    rw [tryDT_of hD ht]
    rfl
  · have e : formOf 2 mt y m d = form2 y m d (mt / 86400 % 7) (mt % 86400) := rfl
    have p := pieces_form2 y m d (mt / 86400 % 7) (mt % 86400) hm1 hm2
    by_cases hd : d < 10
    · have hD := dated_of d m y [dg d] (d4 y) (digits1 d (by omega) (by omega)) (century4 y (by omega) (by omega)) hm1 hm2 hy0 hd1 hd2
      rw [if_pos hd] at p
      unfold partsL
      rw [e, p]
      simp only
      rw [if_neg, if_pos trivial, tryDT_of hD ht]
      · rfl
      · intro hc
        have := mem_dayN (mt / 86400 % 7) 44 (List.mem_of_mem_take (List.mem_of_getLast? hc.1))
        exact absurd this (by decide)
    · have hD := dated_of d m y (d2 d) (d4 y) (digits2 d (by omega) (by omega)) (century4 y (by omega) (by omega)) hm1 hm2 hy0 hd1 hd2
      rw [if_neg hd] at p
      unfold partsL
      rw [e, p]
      simp only
      rw [tryDT_of hD ht]
      rfl

def joinedAt (c : (Int × Int × Int) × (Int × Int × Int)) : Int := (dby c.1.1 + cum c.1.1 c.1.2.1 + c.1.2.2 - 1) * 86400 + c.2.1 * 3600 + c.2.2.1 * 60 + c.2.2.2
theorem tryDT_inv {d m y t : List UInt8} {c : (Int × Int × Int) × (Int × Int × Int)} (h : tryDT d m y t = some c) : Moment (joinedAt c) c.1.1 c.1.2.1 c.1.2.2 ∧ joinedAt c % 86400 = c.2.1 * 3600 + c.2.2.1 * 60 + c.2.2.2 ∧ c.1.1 = century y ∧ 0 ≤ c.2.1 ∧ c.2.1 ≤ 23 ∧ 0 ≤ c.2.2.1 ∧ c.2.2.1 ≤ 59 ∧ 0 ≤ c.2.2.2 ∧ c.2.2.2 ≤ 59 := by
  unfold tryDT at h
  split at h
  · rename_i a b ha hb
    simp only [Option.some.injEq] at h
    subst h
    unfold datedL at ha
    split at ha
    · rename_i hc
      obtain ⟨hm, hy, hd1, hd2⟩ := hc
      simp only [Option.some.injEq] at ha
      subst ha
      have hmb := monOf_bd m
      have hyb : century y ≤ 9999 := by
        have := digitsD_bd y
        unfold century
        split
        · rename_i hc
          split
          · omega
          · rename_i h70
            have : digitsD y < 100 ∨ 100 ≤ digitsD y := by omega
            rcases this with h | h
            · omega
            · exfalso
              obtain ⟨hl, _⟩ := hc
              match y, hl with
              | [p, q], _ =>
                have hp : dig p < 10 ∨ 10 ≤ dig p := by omega
                have hq : dig q < 10 ∨ 10 ≤ dig q := by omega
                unfold digitsD numR at h
                rcases hp with hp | hp
                · rcases hq with hq | hq
                  · have hb : badDig 10 [p, q] = false := by simp [badDig]; omega
                    simp only [hb] at h
                    simp [accN] at h
                    have e0 : ¬ ((9999 : Int) < dig p ∨ (9999 - (dig p : Int)) / 10 < 0) := by omega
                    have e1 : ¬ ((9999 : Int) < dig q ∨ (9999 - (dig q : Int)) / 10 < (dig p : Int)) := by omega
                    simp [e0, e1, accR] at h
                    omega
                  · have hb : badDig 10 [p, q] = true := by simp [badDig]; omega
                    simp [hb] at h
                · have hb : badDig 10 [p, q] = true := by simp [badDig]; omega
                  simp [hb] at h
        · omega
      unfold timedL at hb
      split at hb
      · split at hb
        · rename_i hc
          obtain ⟨_, _, _, t0, t1, t2, t3, t4, t5⟩ := hc
          simp only [Option.some.injEq] at hb
          subst hb
          simp only [joinedAt]
          have c1 := cum_bd (century y) (monOf m)
          have c2 := dby_mono 1970 (century y) hy
          have c3 : dby 1970 = 0 := dby_1970
          have c4 := dby_mono (century y + 1) 10000 (by omega)
          have c5 : dby 10000 = 2932897 := by decide
          have c6 := dby_succ (century y)
          have c7 := cum_mono (century y) (monOf m + 1) 13 (by omega) (by omega) (by omega)
          have c8 := cum_succ (century y) (monOf m) (by omega) (by omega)
          have c9 := cum_13 (century y)
          refine ⟨⟨by omega, by omega, by omega, by omega, hd1, hd2, by omega⟩, by omega, trivial, by omega, by omega, by omega, by omega, by omega, by omega⟩
        · cases hb
      · cases hb
    · cases ha
  · cases h
end IH
