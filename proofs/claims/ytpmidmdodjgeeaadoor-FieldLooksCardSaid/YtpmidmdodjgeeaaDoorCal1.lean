/- Layer 2 in plain Lean: the calendar. No program in sight; no condition. -/
import Derived.Test.YtpmidmdodjgeeaaDoorMath3
namespace IH

def leapB (y : Int) : Bool := y % 4 == 0 && (!(y % 100 == 0) || y % 400 == 0)
def leapN (y : Int) : Int := if y % 4 = 0 ∧ (¬ y % 100 = 0 ∨ y % 400 = 0) then 1 else 0
/-- How many days lie ahead of a year, from 1970 on. -/
def dby (y : Int) : Int := 365 * (y - 1970) + (y - 1) / 4 - 492 - ((y - 1) / 100 - 19) + (y - 1) / 400 - 4
def mlen (y m : Int) : Int := if m = 2 then 28 + leapN y else if m = 4 ∨ m = 6 ∨ m = 9 ∨ m = 11 then 30 else 31
/-- How many days of a year lie ahead of a month. -/
def cum (y m : Int) : Int :=
  if m ≤ 1 then 0 else if m = 2 then 31 else if m = 3 then 59 + leapN y else if m = 4 then 90 + leapN y else if m = 5 then 120 + leapN y else if m = 6 then 151 + leapN y
  else if m = 7 then 181 + leapN y else if m = 8 then 212 + leapN y else if m = 9 then 243 + leapN y else if m = 10 then 273 + leapN y else if m = 11 then 304 + leapN y else if m = 12 then 334 + leapN y else 365 + leapN y

theorem leapB_iff (y : Int) : leapB y = true ↔ leapN y = 1 := by
  unfold leapB leapN
  by_cases h1 : y % 4 = 0 <;> by_cases h2 : y % 100 = 0 <;> by_cases h3 : y % 400 = 0 <;> simp [h1, h2, h3]
theorem leapN_01 (y : Int) : leapN y = 0 ∨ leapN y = 1 := by unfold leapN; split <;> simp
theorem leapB_val (y : Int) : leapN y = if leapB y = true then 1 else 0 := by
  have h := leapB_iff y
  have h2 := leapN_01 y
  split
  · rename_i hb; exact h.1 hb
  · rename_i hb; rcases h2 with h2 | h2
    · exact h2
    · exact absurd (h.2 h2) hb
theorem dby_succ (y : Int) : dby (y + 1) = dby y + 365 + leapN y := by
  unfold dby leapN
  split <;> omega
theorem dby_400 (y : Int) : dby (y + 400) = dby y + 146097 := by unfold dby; omega
theorem dby_mono (a b : Int) (h : a ≤ b) : dby a ≤ dby b := by unfold dby; omega
theorem dby_1970 : dby 1970 = 0 := by decide
theorem leapN_400 (y : Int) : leapN (y + 400) = leapN y := by
  have h1 : (y + 400) % 4 = y % 4 := by omega
  have h2 : (y + 400) % 100 = y % 100 := by omega
  have h3 : (y + 400) % 400 = y % 400 := by omega
  unfold leapN
  rw [h1, h2, h3]
theorem mlen_bd (y m : Int) : 28 ≤ mlen y m ∧ mlen y m ≤ 31 := by
  have := leapN_01 y
  unfold mlen
  split
  · omega
  · split <;> omega
theorem cum_succ (y m : Int) (h1 : 1 ≤ m) (h2 : m ≤ 12) : cum y (m + 1) = cum y m + mlen y m := by
  have hm : m = 1 ∨ m = 2 ∨ m = 3 ∨ m = 4 ∨ m = 5 ∨ m = 6 ∨ m = 7 ∨ m = 8 ∨ m = 9 ∨ m = 10 ∨ m = 11 ∨ m = 12 := by omega
  rcases hm with rfl | rfl | rfl | rfl | rfl | rfl | rfl | rfl | rfl | rfl | rfl | rfl <;> simp [cum, mlen] <;> omega
theorem cum_bd (y m : Int) : 0 ≤ cum y m ∧ cum y m ≤ 365 + leapN y := by
  have hl := leapN_01 y
  have hm : m ≤ 1 ∨ m = 2 ∨ m = 3 ∨ m = 4 ∨ m = 5 ∨ m = 6 ∨ m = 7 ∨ m = 8 ∨ m = 9 ∨ m = 10 ∨ m = 11 ∨ m = 12 ∨ 13 ≤ m := by omega
  rcases hm with h | rfl | rfl | rfl | rfl | rfl | rfl | rfl | rfl | rfl | rfl | rfl | h
  · unfold cum; rw [if_pos h]; omega
  all_goals first
    | (simp [cum]; omega)
    | (unfold cum; rw [if_neg (by omega), if_neg (by omega), if_neg (by omega), if_neg (by omega), if_neg (by omega), if_neg (by omega), if_neg (by omega), if_neg (by omega), if_neg (by omega), if_neg (by omega), if_neg (by omega), if_neg (by omega)]; omega)
theorem cum_mono (y a b : Int) (h0 : 1 ≤ a) (h : a ≤ b) (h1 : b ≤ 13) : cum y a ≤ cum y b := by
  obtain ⟨k, hk⟩ : ∃ k : Nat, b = a + k := ⟨(b - a).toNat, by omega⟩
  subst hk
  induction k with
  | zero => simp
  | succ k ih =>
    have e : a + ((k + 1 : Nat) : Int) = (a + k) + 1 := by omega
    rw [e, cum_succ y (a + k) (by omega) (by omega)]
    have := ih (by omega) (by omega)
    have := mlen_bd y (a + k)
    omega
theorem cum_13 (y : Int) : cum y 13 = 365 + leapN y := by simp [cum]
theorem cum_1 (y : Int) : cum y 1 = 0 := by simp [cum]

/-- The n-th day from 1970 on is the date y, m, d. -/
structure Civ (n y m d : Int) : Prop where
  hm1 : 1 ≤ m
  hm2 : m ≤ 12
  hd1 : 1 ≤ d
  hd2 : d ≤ mlen y m
  hn : n = dby y + cum y m + d - 1

theorem Civ.year {n y m d : Int} (h : Civ n y m d) : dby y ≤ n ∧ n < dby (y + 1) := by
  obtain ⟨h1, h2, h3, h4, h5⟩ := h
  have a := cum_bd y m
  have b := cum_succ y m h1 h2
  have c := cum_mono y (m + 1) 13 (by omega) (by omega) (by omega)
  have e := cum_13 y
  have f := dby_succ y
  omega
theorem Civ.uniq {n y m d y' m' d' : Int} (h : Civ n y m d) (h' : Civ n y' m' d') : y = y' ∧ m = m' ∧ d = d' := by
  have a := h.year
  have a' := h'.year
  have hy : y = y' := by
    rcases Int.lt_trichotomy y y' with hl | he | hg
    · have := dby_mono (y + 1) y' (by omega); omega
    · exact he
    · have := dby_mono (y' + 1) y (by omega); omega
  subst hy
  obtain ⟨h1, h2, h3, h4, h5⟩ := h
  obtain ⟨h1', h2', h3', h4', h5'⟩ := h'
  have hm : m = m' := by
    rcases Int.lt_trichotomy m m' with hl | he | hg
    · have b := cum_succ y m h1 h2
      have c := cum_mono y (m + 1) m' (by omega) (by omega) (by omega)
      omega
    · exact he
    · have b := cum_succ y m' h1' h2'
      have c := cum_mono y (m' + 1) m (by omega) (by omega) (by omega)
      omega
  subst hm
  exact ⟨rfl, rfl, by omega⟩

/-- The date of a day: whichever it is. -/
noncomputable def civOf (n : Int) : Int × Int × Int := Classical.epsilon fun p => Civ n p.1 p.2.1 p.2.2
theorem Civ.civOf {n y m d : Int} (h : Civ n y m d) : IH.civOf n = (y, m, d) := by
  have hs : Civ n (IH.civOf n).1 (IH.civOf n).2.1 (IH.civOf n).2.2 := Classical.epsilon_spec (p := fun p : Int × Int × Int => Civ n p.1 p.2.1 p.2.2) ⟨(y, m, d), h⟩
  obtain ⟨a, b, c⟩ := hs.uniq h
  rw [Prod.ext_iff, Prod.ext_iff]
  exact ⟨a, b, c⟩

/-- A day is followed by the calendar's next. -/
theorem Civ.next {n y m d u v w : Int} (h : Civ n y m d) (h' : Civ (n + 1) u v w) : (u = y ∧ v = m ∧ w = d + 1) ∨ (w = 1 ∧ ((u = y ∧ v = m + 1) ∨ (u = y + 1 ∧ v = 1 ∧ m = 12))) := by
  have h0 := h
  obtain ⟨h1, h2, h3, h4, h5⟩ := h
  have l1 := leapN_01 (y + 1)
  by_cases hd : d + 1 ≤ mlen y m
  · have := h'.uniq (y' := y) (m' := m) (d' := d + 1) ⟨h1, h2, by omega, hd, by omega⟩
    exact .inl this
  · by_cases hm : m + 1 ≤ 12
    · have b := cum_succ y m h1 h2
      have := h'.uniq (y' := y) (m' := m + 1) (d' := 1) ⟨by omega, hm, by omega, by have := mlen_bd y (m + 1); omega, by omega⟩
      exact .inr ⟨this.2.2, .inl ⟨this.1, this.2.1⟩⟩
    · obtain rfl : m = 12 := by omega
      have b := cum_succ y 12 h1 h2
      rw [show (12 : Int) + 1 = 13 from rfl] at b
      have c := cum_13 y
      have e := dby_succ y
      have f := cum_1 (y + 1)
      have := h'.uniq (y' := y + 1) (m' := 1) (d' := 1) ⟨by omega, by omega, by omega, by have := mlen_bd (y + 1) 1; omega, by rw [f]; omega⟩
      exact .inr ⟨this.2.2, .inr ⟨this.1, this.2.1, rfl⟩⟩

/-- Days of the week, from Thursday on. -/
def dayN (i : Int) : List UInt8 := if i = 0 then [84, 104, 117, 114, 115, 100, 97, 121] else if i = 1 then [70, 114, 105, 100, 97, 121] else if i = 2 then [83, 97, 116, 117, 114, 100, 97, 121] else if i = 3 then [83, 117, 110, 100, 97, 121] else if i = 4 then [77, 111, 110, 100, 97, 121] else if i = 5 then [84, 117, 101, 115, 100, 97, 121] else [87, 101, 100, 110, 101, 115, 100, 97, 121]
/-- Months, from 1 on. -/
def monN (i : Int) : List UInt8 := if i = 1 then [74, 97, 110] else if i = 2 then [70, 101, 98] else if i = 3 then [77, 97, 114] else if i = 4 then [65, 112, 114] else if i = 5 then [77, 97, 121] else if i = 6 then [74, 117, 110] else if i = 7 then [74, 117, 108] else if i = 8 then [65, 117, 103] else if i = 9 then [83, 101, 112] else if i = 10 then [79, 99, 116] else if i = 11 then [78, 111, 118] else [68, 101, 99]
def dg (n : Int) : UInt8 := digC (n % 10).toNat
def d2 (n : Int) : List UInt8 := [dg (n / 10), dg n]
def d4 (n : Int) : List UInt8 := [dg (n / 1000), dg (n / 100), dg (n / 10), dg n]
def clockL (s : Int) : List UInt8 := d2 (s / 3600) ++ [58] ++ d2 (s / 60 % 60) ++ [58] ++ d2 (s % 60)
def gmt : List UInt8 := [32, 71, 77, 84]
def short2 (d : Int) : List UInt8 := if d < 10 then [32, dg d] else d2 d
/-- The three forms of a date, a day of the week (from Thursday on), a time of day. -/
def form0 (y m d w s : Int) : List UInt8 := (dayN w).take 3 ++ [44, 32] ++ d2 d ++ [32] ++ monN m ++ [32] ++ d4 y ++ [32] ++ clockL s ++ gmt
def form1 (y m d w s : Int) : List UInt8 := dayN w ++ [44, 32] ++ d2 d ++ [45] ++ monN m ++ [45] ++ d2 (y % 100) ++ [32] ++ clockL s ++ gmt
def form2 (y m d w s : Int) : List UInt8 := (dayN w).take 3 ++ [32] ++ monN m ++ [32] ++ short2 d ++ [32] ++ clockL s ++ [32] ++ d4 y
def formK (k : Int) (y m d w s : Int) : List UInt8 := if k = 0 then form0 y m d w s else if k = 1 then form1 y m d w s else form2 y m d w s

/-- A number's digits, with noughts ahead. -/
def padded (size : Nat) (n : Nat) : List UInt8 := List.replicate (size - (digs 10 64 n).length) 48 ++ digs 10 64 n
theorem padded2_all : (List.range 100).all (fun n => padded 2 n == d2 n) = true := by decide +kernel
theorem padded2 (n : Nat) (h : n < 100) : padded 2 n = d2 n := eq_of_beq (List.all_eq_true.1 padded2_all n (List.mem_range.2 h))
theorem digC_dg (k n : Nat) (h : k = n % 10) : digC k = dg n := by
  subst h
  unfold dg
  congr 1
theorem padded4 (n : Nat) (h : n < 10000) : padded 4 n = d4 n := by
  have e1 : (n : Int) / 10 = ((n / 10 : Nat) : Int) := by omega
  have e2 : (n : Int) / 100 = ((n / 100 : Nat) : Int) := by omega
  have e3 : (n : Int) / 1000 = ((n / 1000 : Nat) : Int) := by omega
  unfold d4 padded
  rw [e1, e2, e3]
  have z : digC 0 = 48 := rfl
  by_cases h1 : n < 10
  · rw [digs_small 10 n h1, digC_dg n n (by omega)]
    rw [← digC_dg 0 (n / 10) (by omega), ← digC_dg 0 (n / 100) (by omega), ← digC_dg 0 (n / 1000) (by omega), z]
    rfl
  · rw [digs_step 10 (by omega) n (by omega) (by omega), digC_dg (n % 10) n rfl]
    by_cases h2 : n < 100
    · rw [digs_small 10 (n / 10) (by omega), digC_dg (n / 10) (n / 10) (by omega)]
      rw [← digC_dg 0 (n / 100) (by omega), ← digC_dg 0 (n / 1000) (by omega), z]
      rfl
    · rw [digs_step 10 (by omega) (n / 10) (by omega) (by omega), digC_dg (n / 10 % 10) (n / 10) rfl, Nat.div_div_eq_div_mul]
      by_cases h3 : n < 1000
      · rw [digs_small 10 (n / (10 * 10)) (by omega), digC_dg (n / (10 * 10)) (n / 100) (by omega)]
        rw [← digC_dg 0 (n / 1000) (by omega), z]
        rfl
      · rw [digs_step 10 (by omega) (n / (10 * 10)) (by omega) (by omega), digC_dg (n / (10 * 10) % 10) (n / 100) (by omega), Nat.div_div_eq_div_mul]
        rw [digs_small 10 (n / (10 * 10 * 10)) (by omega), digC_dg (n / (10 * 10 * 10)) (n / 1000) (by omega)]
        rfl
end IH
