/- Layer 1 in plain Lean: digits and numbers. No program in sight; no condition. -/
import Derived.Test.YtpmidmdodjgeeaaDoorMath1
namespace IH

theorem all_bytes (p : UInt8 → Bool) (h : (List.range 256).all (fun n => p (UInt8.ofNat n)) = true) (c : UInt8) : p c = true := by
  have := List.all_eq_true.1 h c.toNat (List.mem_range.2 c.toNat_lt)
  simpa using this

def dig (c : UInt8) : Nat := if 48 ≤ c.toNat && c.toNat ≤ 57 then c.toNat - 48 else if 97 ≤ c.toNat && c.toNat ≤ 102 then c.toNat - 87 else if 65 ≤ c.toNat && c.toNat ≤ 70 then c.toNat - 55 else 99
def badDig (base : Nat) (l : List UInt8) : Bool := l.any fun c => decide (base ≤ dig c)
def accN (base : Nat) (most : Int) : Int → List UInt8 → Option Int
  | n, [] => some n
  | n, c :: r => if (dig c : Int) > most ∨ n > (most - dig c) / base then none else accN base most (n * base + dig c) r
def accR : Option Int → Int × Int
  | none => (0, 12)
  | some n => (n, 0)
def numR (base : Nat) (most : Int) (l : List UInt8) : Int × Int :=
  if l = [] then (0, 10) else if badDig base l then (0, 10) else if most < 0 then (0, 12) else accR (accN base most 0 l)

def digitsL : List UInt8 := [48, 49, 50, 51, 52, 53, 54, 55, 56, 57, 97, 98, 99, 100, 101, 102]
/-- Where an octet, in small letters, stands among the digits to a base; -1: nowhere. -/
def digIx (base : Nat) (c : UInt8) : Int := if dig c < base then (dig c : Int) else -1

theorem accN_snoc (base : Nat) (most n : Int) (l : List UInt8) (c : UInt8) : accN base most n (l ++ [c]) =
    match accN base most n l with
    | none => none
    | some m => if (dig c : Int) > most ∨ m > (most - dig c) / base then none else some (m * base + dig c) := by
  induction l generalizing n with
  | nil => simp [accN]
  | cons d l ih =>
    simp only [List.cons_append, accN]
    split
    · rfl
    · exact ih _
theorem accN_bound (base : Nat) (hb : 0 < base) (most n m : Int) (l : List UInt8) (h : accN base most n l = some m) (h0 : 0 ≤ n) (h1 : n ≤ most) : 0 ≤ m ∧ m ≤ most := by
  induction l generalizing n with
  | nil => simp [accN] at h; omega
  | cons d l ih =>
    simp only [accN] at h
    split at h
    · cases h
    · rename_i hc
      have hc1 : (dig d : Int) ≤ most := by omega
      have hc2 : n ≤ (most - dig d) / base := by omega
      have hp : (0 : Int) < base := by omega
      have h3 : n * base ≤ most - dig d := by
        have := Int.le_ediv_iff_mul_le hp |>.1 hc2
        exact this
      have h4 : 0 ≤ n * (base : Int) := Int.mul_nonneg h0 (by omega)
      exact ih _ h (by omega) (by omega)
theorem accN_none_more (base : Nat) (most n : Int) (a b : List UInt8) (h : accN base most n a = none) : accN base most n (a ++ b) = none := by
  induction a generalizing n with
  | nil => simp [accN] at h
  | cons d a ih =>
    simp only [List.cons_append, accN] at *
    split
    · rfl
    · rename_i hc
      rw [if_neg hc] at h
      exact ih _ h
theorem badDig_append (base : Nat) (a b : List UInt8) : badDig base (a ++ b) = (badDig base a || badDig base b) := by simp [badDig]

/-- A number's digits. -/
def digC (d : Nat) : UInt8 := if d < 10 then UInt8.ofNat (48 + d) else UInt8.ofNat (87 + d)
def digs (base : Nat) : Nat → Nat → List UInt8
  | 0, _ => []
  | f + 1, n => if n < base then [digC n] else digs base f (n / base) ++ [digC (n % base)]
def baseOf (b : Int) : Nat := if b = 16 then 16 else 10
def printN (n : Int) (base : Int) : List UInt8 := digs (baseOf base) 64 n.toNat

theorem digs_more (base : Nat) (hb : 2 ≤ base) (f g n : Nat) (hf : n < 2 ^ f) (hg : n < 2 ^ g) (hf0 : 0 < f) (hg0 : 0 < g) : digs base f n = digs base g n := by
  induction f generalizing g n with
  | zero => omega
  | succ f ih =>
    cases g with
    | zero => omega
    | succ g =>
      unfold digs
      split
      · rfl
      · rename_i h
        have h1 : n / base ≤ n / 2 := Nat.div_le_div_left hb (by omega)
        have h2 : n / 2 < 2 ^ f := by rw [Nat.pow_succ] at hf; omega
        have h3 : n / 2 < 2 ^ g := by rw [Nat.pow_succ] at hg; omega
        have h4 : 0 < n / base := Nat.div_pos (by omega) (by omega)
        have hf1 : 0 < f := by
          rcases Nat.eq_zero_or_pos f with h | h
          · subst h; simp at h2; omega
          · exact h
        have hg1 : 0 < g := by
          rcases Nat.eq_zero_or_pos g with h | h
          · subst h; simp at h3; omega
          · exact h
        rw [ih g (n / base) (by omega) (by omega) hf1 hg1]
theorem digs_step (base : Nat) (hb : 2 ≤ base) (n : Nat) (hn : n < 2 ^ 63) (h : base ≤ n) : digs base 64 n = digs base 64 (n / base) ++ [digC (n % base)] := by
  conv => lhs; unfold digs
  rw [if_neg (by omega)]
  have h1 : n / base ≤ n / 2 := Nat.div_le_div_left hb (by omega)
  rw [digs_more base hb 63 64 (n / base) (by omega) (by omega) (by omega) (by omega)]
theorem digs_small (base n : Nat) (h : n < base) : digs base 64 n = [digC n] := by unfold digs; rw [if_pos h]
theorem digs_ne (base f n : Nat) (hf : 0 < f) : digs base f n ≠ [] := by
  cases f with
  | zero => omega
  | succ f => unfold digs; split <;> simp
theorem digs_length (base : Nat) (f n : Nat) : (digs base f n).length ≤ f := by
  induction f generalizing n with
  | zero => simp [digs]
  | succ f ih =>
    unfold digs
    split
    · simp
    · have := ih (n / base); simp; omega

theorem dig_digC (d : Nat) (h : d < 16) : dig (digC d) = d := by
  have : ∀ d, d < 16 → dig (digC d) = d := by decide
  exact this d h
theorem badDig_digs (base : Nat) (hb : 2 ≤ base) (hb' : base ≤ 16) (f n : Nat) : badDig base (digs base f n) = false := by
  have one : ∀ d, d < base → badDig base [digC d] = false := by
    intro d hd
    simp [badDig, dig_digC d (by omega)]; exact hd
  induction f generalizing n with
  | zero => rfl
  | succ f ih =>
    unfold digs
    split
    · rename_i h; exact one n h
    · rw [badDig_append, ih, one _ (Nat.mod_lt _ (by omega))]; rfl
theorem accN_digs (base : Nat) (hb : 2 ≤ base) (hb' : base ≤ 16) (most : Int) (f n : Nat) (hf : n < 2 ^ f) (hm : (n : Int) ≤ most) (hf0 : 0 < f) : accN base most 0 (digs base f n) = some (n : Int) := by
  have hp : (0 : Int) < base := by omega
  induction f generalizing n with
  | zero => omega
  | succ f ih =>
    unfold digs
    split
    · rename_i h
      simp only [accN, dig_digC n (by omega)]
      have : (0 : Int) ≤ (most - n) / base := Int.ediv_nonneg (by omega) (by omega)
      rw [if_neg (by omega)]
      simp
    · rename_i h
      have h1 : n / base ≤ n / 2 := Nat.div_le_div_left hb (by omega)
      have h2 : n / 2 < 2 ^ f := by rw [Nat.pow_succ] at hf; omega
      have h4 : 0 < n / base := Nat.div_pos (by omega) (by omega)
      have hf1 : 0 < f := by
        rcases Nat.eq_zero_or_pos f with h | h
        · subst h; simp at h2; omega
        · exact h
      have hmod : n % base < base := Nat.mod_lt _ (by omega)
      have hdm := Nat.div_add_mod n base
      have hle : n / base ≤ n := Nat.div_le_self _ _
      rw [accN_snoc, ih (n / base) (by omega) (by omega) hf1]
      simp only [dig_digC (n % base) (by omega)]
      have h5 : ((n / base : Nat) : Int) ≤ (most - (n % base : Nat)) / base := by
        rw [Int.le_ediv_iff_mul_le hp]
        have : ((n / base : Nat) : Int) * (base : Int) + ((n % base : Nat) : Int) = n := by
          have : (n / base) * base + n % base = n := by rw [Nat.mul_comm]; exact hdm
          omega
        omega
      have h6 : ((n % base : Nat) : Int) ≤ most := by have := Nat.mod_le n base; omega
      rw [if_neg (by omega)]
      congr 1
      have : (n / base) * base + n % base = n := by rw [Nat.mul_comm]; exact hdm
      omega

/-- A number's own digits say it. -/
theorem numR_print (base : Nat) (hb : base = 10 ∨ base = 16) (n : Nat) (hn : n < 2 ^ 63) : numR base 9223372036854775807 (digs base 64 n) = ((n : Int), 0) := by
  have h1 := digs_ne base 64 n (by omega)
  have h2 := badDig_digs base (by omega) (by omega) 64 n
  have h3 := accN_digs base (by omega) (by omega) 9223372036854775807 64 n (by omega) (by omega) (by omega)
  unfold numR
  rw [if_neg h1, h2, h3]
  simp [accR]
end IH
