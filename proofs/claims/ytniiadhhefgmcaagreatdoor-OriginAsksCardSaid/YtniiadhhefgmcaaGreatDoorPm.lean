/- Pm: several texts, one behind the other. -/

/- Layer 1 in plain Lean: octets, tokens, trimming, small letters. No program in sight; no condition. -/
namespace IH

/-- A letter or a digit. -/
def isLetter (c : UInt8) : Bool := (97 ≤ c.toNat && c.toNat ≤ 122) || (65 ≤ c.toNat && c.toNat ≤ 90) || (48 ≤ c.toNat && c.toNat ≤ 57)
def isPlain (c : UInt8) : Bool := (32 ≤ c.toNat && !(c.toNat == 127)) || c.toNat == 9
def allOf (p : UInt8 → Bool) (l : List UInt8) : Bool := l.all p
def marks : List UInt8 := [33, 35, 36, 37, 38, 39, 42, 43, 45, 46, 94, 95, 96, 124, 126]
def isMark (c : UInt8) : Bool := marks.contains c
def isTchar (c : UInt8) : Bool := isLetter c || isMark c
def isBlank (c : UInt8) : Bool := c.toNat == 32 || c.toNat == 9
def token (l : List UInt8) : Bool := !l.isEmpty && allOf isTchar l
def trimL (l : List UInt8) : List UInt8 := l.dropWhile isBlank
def trimR (l : List UInt8) : List UInt8 := (trimL l.reverse).reverse
def trim (l : List UInt8) : List UInt8 := trimL (trimR l)
def value (l : List UInt8) : Bool := allOf isPlain l && (trim l == l)
def lowerC (c : UInt8) : UInt8 := if 65 ≤ c.toNat && c.toNat ≤ 90 then c + 32 else c
def lower (l : List UInt8) : List UInt8 := l.map lowerC

theorem trimL_blank {c : UInt8} {l : List UInt8} (h : isBlank c = true) : trimL (c :: l) = trimL l := by simp [trimL, h]
theorem trimL_head {c : UInt8} {l : List UInt8} (h : isBlank c = false) : trimL (c :: l) = c :: l := by simp [trimL, h]
theorem trimL_nil : trimL [] = [] := rfl
theorem trimR_blank {c : UInt8} {l : List UInt8} (h : isBlank c = true) : trimR (l ++ [c]) = trimR l := by
  simp [trimR, trimL_blank h]
theorem trimR_last {c : UInt8} {l : List UInt8} (h : isBlank c = false) : trimR (l ++ [c]) = l ++ [c] := by
  simp [trimR, trimL_head h]
theorem trimR_cons (c : UInt8) (l : List UInt8) : trimR (c :: l) = if trimR l = [] then (if isBlank c then [] else [c]) else c :: trimR l := by
  unfold trimR trimL
  simp only [List.reverse_cons, List.dropWhile_append, List.reverse_eq_nil_iff]
  by_cases h : List.dropWhile isBlank l.reverse = []
  · by_cases hb : isBlank c <;> simp [h, hb]
  · simp [h]
theorem trim_comm (l : List UInt8) : trimR (trimL l) = trimL (trimR l) := by
  induction l with
  | nil => rfl
  | cons c l ih =>
    by_cases hb : isBlank c
    · rw [trimL_blank hb, ih, trimR_cons]
      by_cases h : trimR l = []
      · simp [h, hb, trimL_nil]
      · simp [h, trimL_blank hb]
    · have hb' : isBlank c = false := by simpa using hb
      rw [trimL_head hb', trimR_cons]
      by_cases h : trimR l = []
      · simp [h, hb', trimL_head hb']
      · simp [h, trimL_head hb']
theorem dropWhile_length_le (p : UInt8 → Bool) (l : List UInt8) : (l.dropWhile p).length ≤ l.length := (List.dropWhile_suffix p).length_le
theorem trimL_length (l : List UInt8) : (trimL l).length ≤ l.length := dropWhile_length_le _ _
theorem trimR_length (l : List UInt8) : (trimR l).length ≤ l.length := by
  have := dropWhile_length_le isBlank l.reverse
  simp [trimR, trimL] at *; exact this
theorem trim_length (l : List UInt8) : (trim l).length ≤ l.length := Nat.le_trans (trimL_length _) (trimR_length _)

end IH

/- Layer 1 in plain Lean: lists of texts, cut at commas outside of quotation marks; by the code's way and by the document's. No program in sight; no condition. -/
namespace IH

/-- Where the first comma stands outside of quotation marks; the length, if there is none. -/
def comma : Bool → Bool → List UInt8 → Nat
  | _, _, [] => 0
  | ins, skip, c :: r =>
    if c = 44 ∧ ins = false then 0
    else if skip then 1 + comma ins false r
    else if c = 34 then 1 + comma (!ins) false r
    else if c = 92 ∧ ins = true then 1 + comma ins true r
    else 1 + comma ins false r

def emit (x : List UInt8) : List (List UInt8) := if trim x = [] then [] else [trim x]
def splitF : Nat → List UInt8 → List (List UInt8)
  | 0, _ => []
  | f + 1, l => if l = [] then [] else emit (l.take (comma false false l)) ++ splitF f (l.drop (comma false false l + 1))
def split1 (l : List UInt8) : List (List UInt8) := splitF l.length l
def splitL (L : List (List UInt8)) : List (List UInt8) := L.flatMap split1

theorem comma_le (ins skip : Bool) (l : List UInt8) : comma ins skip l ≤ l.length := by
  induction l generalizing ins skip with
  | nil => simp [comma]
  | cons c r ih =>
    unfold comma
    split
    · simp
    · split
      · have := ih ins false; simp; omega
      · split
        · have := ih (!ins) false; simp; omega
        · split
          · have := ih ins true; simp; omega
          · have := ih ins false; simp; omega

theorem emit_length (x : List UInt8) : (emit x).length ≤ x.length := by
  unfold emit
  split
  · simp
  · rename_i h
    have h1 := trim_length x
    have : (trim x).length ≠ 0 := by simpa using h
    simp; omega

theorem splitF_length (f : Nat) (l : List UInt8) : (splitF f l).length ≤ l.length := by
  induction f generalizing l with
  | zero => simp [splitF]
  | succ f ih =>
    unfold splitF
    split
    · simp
    · have h1 := ih (l.drop (comma false false l + 1))
      have h2 := emit_length (l.take (comma false false l))
      have h3 := comma_le false false l
      simp only [List.length_append, List.length_drop, List.length_take] at *
      omega

theorem splitF_more (f g : Nat) (l : List UInt8) (h : l.length ≤ f) (h' : l.length ≤ g) : splitF f l = splitF g l := by
  induction f generalizing g l with
  | zero =>
    have : l = [] := List.eq_nil_of_length_eq_zero (by omega)
    subst this
    cases g <;> simp [splitF]
  | succ f ih =>
    cases g with
    | zero =>
      have : l = [] := List.eq_nil_of_length_eq_zero (by omega)
      subst this
      simp [splitF]
    | succ g =>
      unfold splitF
      split
      · rfl
      · rename_i hl
        have h0 : 0 < l.length := List.length_pos_iff.2 hl
        rw [ih g (l.drop (comma false false l + 1)) (by rw [List.length_drop]; omega) (by rw [List.length_drop]; omega)]

theorem split1_step (l : List UInt8) (h : l ≠ []) : split1 l = emit (l.take (comma false false l)) ++ split1 (l.drop (comma false false l + 1)) := by
  have h0 : 0 < l.length := List.length_pos_iff.2 h
  unfold split1
  rw [splitF_more l.length (l.length - 1 + 1) l (by omega) (by omega)]
  conv => lhs; unfold splitF
  rw [if_neg h, splitF_more (l.length - 1) (l.drop (comma false false l + 1)).length _ (by rw [List.length_drop]; omega) (Nat.le_refl _)]
theorem split1_nil : split1 [] = [] := rfl
theorem split1_length (l : List UInt8) : (split1 l).length ≤ l.length := splitF_length _ _
theorem splitL_length (L : List (List UInt8)) : (splitL L).length ≤ (L.map List.length).sum := by
  induction L with
  | nil => simp [splitL]
  | cons l L ih =>
    have := split1_length l
    simp only [splitL, List.flatMap_cons, List.length_append, List.map_cons, List.sum_cons] at *
    omega

/-- The document's way: octet by octet. cur: what stands since the last cut. -/
def walk : List UInt8 → Bool → Bool → List UInt8 → List (List UInt8)
  | cur, _, _, [] => emit cur
  | cur, ins, skip, c :: r =>
    if c = 44 ∧ ins = false then emit cur ++ walk [] ins skip r
    else if skip then walk (cur ++ [c]) ins false r
    else walk (cur ++ [c]) (if c = 34 then !ins else ins) (decide (c = 92) && (if c = 34 then !ins else ins)) r

theorem walk_cons (cur : List UInt8) (ins skip : Bool) (c : UInt8) (r : List UInt8) : walk cur ins skip (c :: r) =
    if c = 44 ∧ ins = false then emit cur ++ walk [] ins skip r
    else if skip then walk (cur ++ [c]) ins false r
    else walk (cur ++ [c]) (if c = 34 then !ins else ins) (decide (c = 92) && (if c = 34 then !ins else ins)) r := rfl
theorem comma_cons (ins skip : Bool) (c : UInt8) (r : List UInt8) : comma ins skip (c :: r) =
    if c = 44 ∧ ins = false then 0
    else if skip then 1 + comma ins false r
    else if c = 34 then 1 + comma (!ins) false r
    else if c = 92 ∧ ins = true then 1 + comma ins true r
    else 1 + comma ins false r := rfl

theorem walk_comma (cur : List UInt8) (ins skip : Bool) (l : List UInt8) (h : skip = true → ins = true) :
    walk cur ins skip l = emit (cur ++ l.take (comma ins skip l)) ++ (if comma ins skip l < l.length then walk [] false false (l.drop (comma ins skip l + 1)) else []) := by
  induction l generalizing cur ins skip with
  | nil => simp [walk, comma]
  | cons c r ih =>
    rw [walk_cons, comma_cons]
    by_cases h1 : c = 44 ∧ ins = false
    · have hs : skip = false := by
        cases skip
        · rfl
        · have := h rfl; rw [this] at h1; simp at h1
      obtain ⟨rfl, rfl⟩ := h1
      subst hs
      simp
    · rw [if_neg h1, if_neg h1]
      by_cases h2 : skip = true
      · subst h2
        rw [if_pos rfl, if_pos rfl, ih _ _ _ (by simp)]
        rw [Nat.add_comm 1]
        simp
      · rw [if_neg h2, if_neg h2]
        by_cases h3 : c = 34
        · subst h3
          rw [ih _ _ _ (by simp)]
          simp [Nat.add_comm 1]
        · by_cases h4 : c = 92 ∧ ins = true
          · obtain ⟨rfl, rfl⟩ := h4
            rw [ih _ _ _ (by simp)]
            simp [Nat.add_comm 1]
          · have h5 : (decide (c = 92) && ins) = false := by
              cases ins <;> simp at *; exact h4
            simp only [h3, if_false, h4, h5]
            rw [ih _ _ _ (by simp)]
            simp [Nat.add_comm 1]

theorem walk_split (l : List UInt8) : walk [] false false l = split1 l := by
  generalize hn : l.length = n
  induction n using Nat.strongRecOn generalizing l with
  | _ n ih =>
    rw [walk_comma _ _ _ _ (by simp)]
    by_cases h : l = []
    · subst h; simp [comma, split1_nil, emit, trim, trimL, trimR]
    · have h0 : 0 < l.length := List.length_pos_iff.2 h
      rw [split1_step l h, List.nil_append]
      split
      · rw [ih _ (by rw [List.length_drop]; omega) _ rfl]
      · rw [List.drop_eq_nil_of_le (by omega), split1_nil]

end IH

/- Layer 1 in plain Lean: digits and numbers. No program in sight; no condition. -/
namespace IH

theorem all_bytes (p : UInt8 → Bool) (h : (List.range 256).all (fun n => p (UInt8.ofNat n)) = true) (c : UInt8) : p c = true := by
  have := List.all_eq_true.1 h c.toNat (List.mem_range.2 c.toNat_lt)
  simpa using this

def dig (c : UInt8) : Nat := if 48 ≤ c.toNat && c.toNat ≤ 57 then c.toNat - 48 else if 97 ≤ c.toNat && c.toNat ≤ 102 then c.toNat - 87 else if 65 ≤ c.toNat && c.toNat ≤ 70 then c.toNat - 55 else 99
def badDig (base : Nat) (l : List UInt8) : Bool := l.any fun c => decide (base ≤ dig c)
def accN (base : Nat) (most : Int) : Int → List UInt8 → Option Int
  | n, [] => some n
  | n, c :: r => if (dig c : Int) > most ∨ n > (most - dig c) / base then none else accN base most (n * base + dig c) r
def accR : Option Int → Int × Int
  | none => (0, 12)
  | some n => (n, 0)
def numR (base : Nat) (most : Int) (l : List UInt8) : Int × Int :=
  if l = [] then (0, 10) else if badDig base l then (0, 10) else if most < 0 then (0, 12) else accR (accN base most 0 l)

def digitsL : List UInt8 := [48, 49, 50, 51, 52, 53, 54, 55, 56, 57, 97, 98, 99, 100, 101, 102]
/-- Where an octet, in small letters, stands among the digits to a base; -1: nowhere. -/
def digIx (base : Nat) (c : UInt8) : Int := if dig c < base then (dig c : Int) else -1

theorem accN_snoc (base : Nat) (most n : Int) (l : List UInt8) (c : UInt8) : accN base most n (l ++ [c]) =
    match accN base most n l with
    | none => none
    | some m => if (dig c : Int) > most ∨ m > (most - dig c) / base then none else some (m * base + dig c) := by
  induction l generalizing n with
  | nil => simp [accN]
  | cons d l ih =>
    simp only [List.cons_append, accN]
    split
    · rfl
    · exact ih _
theorem accN_bound (base : Nat) (hb : 0 < base) (most n m : Int) (l : List UInt8) (h : accN base most n l = some m) (h0 : 0 ≤ n) (h1 : n ≤ most) : 0 ≤ m ∧ m ≤ most := by
  induction l generalizing n with
  | nil => simp [accN] at h; omega
  | cons d l ih =>
    simp only [accN] at h
    split at h
    · cases h
    · rename_i hc
      have hc1 : (dig d : Int) ≤ most := by omega
      have hc2 : n ≤ (most - dig d) / base := by omega
      have hp : (0 : Int) < base := by omega
      have h3 : n * base ≤ most - dig d := by
        have := Int.le_ediv_iff_mul_le hp |>.1 hc2
        exact this
      have h4 : 0 ≤ n * (base : Int) := Int.mul_nonneg h0 (by omega)
      exact ih _ h (by omega) (by omega)
theorem accN_none_more (base : Nat) (most n : Int) (a b : List UInt8) (h : accN base most n a = none) : accN base most n (a ++ b) = none := by
  induction a generalizing n with
  | nil => simp [accN] at h
  | cons d a ih =>
    simp only [List.cons_append, accN] at *
    split
    · rfl
    · rename_i hc
      rw [if_neg hc] at h
      exact ih _ h
theorem badDig_append (base : Nat) (a b : List UInt8) : badDig base (a ++ b) = (badDig base a || badDig base b) := by simp [badDig]

/-- A number's digits. -/
def digC (d : Nat) : UInt8 := if d < 10 then UInt8.ofNat (48 + d) else UInt8.ofNat (87 + d)
def digs (base : Nat) : Nat → Nat → List UInt8
  | 0, _ => []
  | f + 1, n => if n < base then [digC n] else digs base f (n / base) ++ [digC (n % base)]
def baseOf (b : Int) : Nat := if b = 16 then 16 else 10
def printN (n : Int) (base : Int) : List UInt8 := digs (baseOf base) 64 n.toNat

theorem digs_more (base : Nat) (hb : 2 ≤ base) (f g n : Nat) (hf : n < 2 ^ f) (hg : n < 2 ^ g) (hf0 : 0 < f) (hg0 : 0 < g) : digs base f n = digs base g n := by
  induction f generalizing g n with
  | zero => omega
  | succ f ih =>
    cases g with
    | zero => omega
    | succ g =>
      unfold digs
      split
      · rfl
      · rename_i h
        have h1 : n / base ≤ n / 2 := Nat.div_le_div_left hb (by omega)
        have h2 : n / 2 < 2 ^ f := by rw [Nat.pow_succ] at hf; omega
        have h3 : n / 2 < 2 ^ g := by rw [Nat.pow_succ] at hg; omega
        have h4 : 0 < n / base := Nat.div_pos (by omega) (by omega)
        have hf1 : 0 < f := by
          rcases Nat.eq_zero_or_pos f with h | h
          · subst h; simp at h2; omega
          · exact h
        have hg1 : 0 < g := by
          rcases Nat.eq_zero_or_pos g with h | h
          · subst h; simp at h3; omega
          · exact h
        rw [ih g (n / base) (by omega) (by omega) hf1 hg1]
theorem digs_step (base : Nat) (hb : 2 ≤ base) (n : Nat) (hn : n < 2 ^ 63) (h : base ≤ n) : digs base 64 n = digs base 64 (n / base) ++ [digC (n % base)] := by
  conv => lhs; unfold digs
  rw [if_neg (by omega)]
  have h1 : n / base ≤ n / 2 := Nat.div_le_div_left hb (by omega)
  rw [digs_more base hb 63 64 (n / base) (by omega) (by omega) (by omega) (by omega)]
theorem digs_small (base n : Nat) (h : n < base) : digs base 64 n = [digC n] := by unfold digs; rw [if_pos h]
theorem digs_length (base : Nat) (f n : Nat) : (digs base f n).length ≤ f := by
  induction f generalizing n with
  | zero => simp [digs]
  | succ f ih =>
    unfold digs
    split
    · simp
    · have := ih (n / base); simp; omega

end IH

/- Layer 1 in plain Lean: quoted texts. No program in sight; no condition. -/
namespace IH

end IH

/- Layer 1 in plain Lean: what is trimmed stays so, small letters, tokens are values. No program in sight; no condition. -/
namespace IH

end IH

/- Layer 2 in plain Lean: the calendar. No program in sight; no condition. -/
namespace IH

def leapN (y : Int) : Int := if y % 4 = 0 ∧ (¬ y % 100 = 0 ∨ y % 400 = 0) then 1 else 0
/-- How many days lie ahead of a year, from 1970 on. -/
def dby (y : Int) : Int := 365 * (y - 1970) + (y - 1) / 4 - 492 - ((y - 1) / 100 - 19) + (y - 1) / 400 - 4
def mlen (y m : Int) : Int := if m = 2 then 28 + leapN y else if m = 4 ∨ m = 6 ∨ m = 9 ∨ m = 11 then 30 else 31
/-- How many days of a year lie ahead of a month. -/
def cum (y m : Int) : Int :=
  if m ≤ 1 then 0 else if m = 2 then 31 else if m = 3 then 59 + leapN y else if m = 4 then 90 + leapN y else if m = 5 then 120 + leapN y else if m = 6 then 151 + leapN y
  else if m = 7 then 181 + leapN y else if m = 8 then 212 + leapN y else if m = 9 then 243 + leapN y else if m = 10 then 273 + leapN y else if m = 11 then 304 + leapN y else if m = 12 then 334 + leapN y else 365 + leapN y

theorem leapN_01 (y : Int) : leapN y = 0 ∨ leapN y = 1 := by unfold leapN; split <;> simp
theorem dby_succ (y : Int) : dby (y + 1) = dby y + 365 + leapN y := by
  unfold dby leapN
  split <;> omega
theorem dby_mono (a b : Int) (h : a ≤ b) : dby a ≤ dby b := by unfold dby; omega
theorem mlen_bd (y m : Int) : 28 ≤ mlen y m ∧ mlen y m ≤ 31 := by
  have := leapN_01 y
  unfold mlen
  split
  · omega
  · split <;> omega
theorem cum_succ (y m : Int) (h1 : 1 ≤ m) (h2 : m ≤ 12) : cum y (m + 1) = cum y m + mlen y m := by
  have hm : m = 1 ∨ m = 2 ∨ m = 3 ∨ m = 4 ∨ m = 5 ∨ m = 6 ∨ m = 7 ∨ m = 8 ∨ m = 9 ∨ m = 10 ∨ m = 11 ∨ m = 12 := by omega
  rcases hm with rfl | rfl | rfl | rfl | rfl | rfl | rfl | rfl | rfl | rfl | rfl | rfl <;> simp [cum, mlen] <;> omega
theorem cum_bd (y m : Int) : 0 ≤ cum y m ∧ cum y m ≤ 365 + leapN y := by
  have hl := leapN_01 y
  have hm : m ≤ 1 ∨ m = 2 ∨ m = 3 ∨ m = 4 ∨ m = 5 ∨ m = 6 ∨ m = 7 ∨ m = 8 ∨ m = 9 ∨ m = 10 ∨ m = 11 ∨ m = 12 ∨ 13 ≤ m := by omega
  rcases hm with h | rfl | rfl | rfl | rfl | rfl | rfl | rfl | rfl | rfl | rfl | rfl | h
  · unfold cum; rw [if_pos h]; omega
  all_goals first
    | (simp [cum]; omega)
    | (unfold cum; rw [if_neg (by omega), if_neg (by omega), if_neg (by omega), if_neg (by omega), if_neg (by omega), if_neg (by omega), if_neg (by omega), if_neg (by omega), if_neg (by omega), if_neg (by omega), if_neg (by omega), if_neg (by omega)]; omega)
theorem cum_mono (y a b : Int) (h0 : 1 ≤ a) (h : a ≤ b) (h1 : b ≤ 13) : cum y a ≤ cum y b := by
  obtain ⟨k, hk⟩ : ∃ k : Nat, b = a + k := ⟨(b - a).toNat, by omega⟩
  subst hk
  induction k with
  | zero => simp
  | succ k ih =>
    have e : a + ((k + 1 : Nat) : Int) = (a + k) + 1 := by omega
    rw [e, cum_succ y (a + k) (by omega) (by omega)]
    have := ih (by omega) (by omega)
    have := mlen_bd y (a + k)
    omega
theorem cum_13 (y : Int) : cum y 13 = 365 + leapN y := by simp [cum]
theorem cum_1 (y : Int) : cum y 1 = 0 := by simp [cum]

/-- The n-th day from 1970 on is the date y, m, d. -/
structure Civ (n y m d : Int) : Prop where
  hm1 : 1 ≤ m
  hm2 : m ≤ 12
  hd1 : 1 ≤ d
  hd2 : d ≤ mlen y m
  hn : n = dby y + cum y m + d - 1

theorem Civ.year {n y m d : Int} (h : Civ n y m d) : dby y ≤ n ∧ n < dby (y + 1) := by
  obtain ⟨h1, h2, h3, h4, h5⟩ := h
  have a := cum_bd y m
  have b := cum_succ y m h1 h2
  have c := cum_mono y (m + 1) 13 (by omega) (by omega) (by omega)
  have e := cum_13 y
  have f := dby_succ y
  omega
theorem Civ.uniq {n y m d y' m' d' : Int} (h : Civ n y m d) (h' : Civ n y' m' d') : y = y' ∧ m = m' ∧ d = d' := by
  have a := h.year
  have a' := h'.year
  have hy : y = y' := by
    rcases Int.lt_trichotomy y y' with hl | he | hg
    · have := dby_mono (y + 1) y' (by omega); omega
    · exact he
    · have := dby_mono (y' + 1) y (by omega); omega
  subst hy
  obtain ⟨h1, h2, h3, h4, h5⟩ := h
  obtain ⟨h1', h2', h3', h4', h5'⟩ := h'
  have hm : m = m' := by
    rcases Int.lt_trichotomy m m' with hl | he | hg
    · have b := cum_succ y m h1 h2
      have c := cum_mono y (m + 1) m' (by omega) (by omega) (by omega)
      omega
    · exact he
    · have b := cum_succ y m' h1' h2'
      have c := cum_mono y (m' + 1) m (by omega) (by omega) (by omega)
      omega
  subst hm
  exact ⟨rfl, rfl, by omega⟩

/-- A day is followed by the calendar's next. -/
theorem Civ.next {n y m d u v w : Int} (h : Civ n y m d) (h' : Civ (n + 1) u v w) : (u = y ∧ v = m ∧ w = d + 1) ∨ (w = 1 ∧ ((u = y ∧ v = m + 1) ∨ (u = y + 1 ∧ v = 1 ∧ m = 12))) := by
  have h0 := h
  obtain ⟨h1, h2, h3, h4, h5⟩ := h
  have l1 := leapN_01 (y + 1)
  by_cases hd : d + 1 ≤ mlen y m
  · have := h'.uniq (y' := y) (m' := m) (d' := d + 1) ⟨h1, h2, by omega, hd, by omega⟩
    exact .inl this
  · by_cases hm : m + 1 ≤ 12
    · have b := cum_succ y m h1 h2
      have := h'.uniq (y' := y) (m' := m + 1) (d' := 1) ⟨by omega, hm, by omega, by have := mlen_bd y (m + 1); omega, by omega⟩
      exact .inr ⟨this.2.2, .inl ⟨this.1, this.2.1⟩⟩
    · obtain rfl : m = 12 := by omega
      have b := cum_succ y 12 h1 h2
      rw [show (12 : Int) + 1 = 13 from rfl] at b
      have c := cum_13 y
      have e := dby_succ y
      have f := cum_1 (y + 1)
      have := h'.uniq (y' := y + 1) (m' := 1) (d' := 1) ⟨by omega, by omega, by omega, by have := mlen_bd (y + 1) 1; omega, by rw [f]; omega⟩
      exact .inr ⟨this.2.2, .inr ⟨this.1, this.2.1, rfl⟩⟩

def dg (n : Int) : UInt8 := digC (n % 10).toNat
def d2 (n : Int) : List UInt8 := [dg (n / 10), dg n]
def d4 (n : Int) : List UInt8 := [dg (n / 1000), dg (n / 100), dg (n / 10), dg n]
end IH

/- Layer 2 in plain Lean: a form, read by its pieces, says its moment. No program in sight; no condition. -/
namespace IH

/-- The pieces of a text between the places of an octet. -/
def pieces (sep : UInt8) : List UInt8 → List (List UInt8)
  | [] => [[]]
  | c :: r => if c = sep then [] :: pieces sep r else match pieces sep r with
    | [] => [[c]]
    | p :: ps => (c :: p) :: ps

theorem pieces_ne (sep : UInt8) (l : List UInt8) : pieces sep l ≠ [] := by
  cases l with
  | nil => simp [pieces]
  | cons c r =>
    unfold pieces
    split
    · simp
    · split <;> simp
theorem pieces_one {sep : UInt8} {a : List UInt8} (h : ∀ c ∈ a, c ≠ sep) : pieces sep a = [a] := by
  induction a with
  | nil => rfl
  | cons c a ih =>
    unfold pieces
    rw [if_neg (h c (by simp)), ih fun x hx => h x (by simp [hx])]
theorem pieces_cut {sep : UInt8} {a : List UInt8} (h : ∀ c ∈ a, c ≠ sep) (b : List UInt8) : pieces sep (a ++ sep :: b) = a :: pieces sep b := by
  induction a with
  | nil => simp [pieces]
  | cons c a ih =>
    rw [List.cons_append]
    conv => lhs; unfold pieces
    rw [if_neg (h c (by simp)), ih fun x hx => h x (by simp [hx])]
theorem pieces_count (sep : UInt8) (l : List UInt8) : (pieces sep l).length = l.count sep + 1 := by
  induction l with
  | nil => simp [pieces]
  | cons c r ih =>
    unfold pieces
    split
    · rename_i h; subst h; simp [ih]
    · rename_i h
      rw [List.count_cons_of_ne h]
      split
      · rename_i h0; exact absurd h0 (pieces_ne sep r)
      · rename_i p ps h0; rw [h0] at ih; simpa using ih

/-- y, m, d is the date of a moment that has forms. -/
structure Moment (mt y m d : Int) : Prop where
  h0 : 0 ≤ mt
  h1 : mt ≤ 253402300799
  civ : Civ (mt / 86400) y m d
theorem Moment.year {mt y m d : Int} (h : Moment mt y m d) : 1970 ≤ y ∧ y ≤ 9999 := by
  obtain ⟨h0, h1, h2⟩ := h
  have h3 := h2.year
  have e0 : dby 1970 = 0 := by decide
  have e1 : dby 10000 = 2932897 := by decide
  constructor
  · rcases Int.lt_or_le y 1970 with h | h
    · have := dby_mono (y + 1) 1970 (by omega); omega
    · exact h
  · rcases Int.lt_or_le 9999 y with h | h
    · have := dby_mono 10000 y (by omega); omega
    · omega
theorem Moment.uniq {mt y m d y' m' d' : Int} (h : Moment mt y m d) (h' : Moment mt y' m' d') : y = y' ∧ m = m' ∧ d = d' := h.civ.uniq h'.civ

end IH

