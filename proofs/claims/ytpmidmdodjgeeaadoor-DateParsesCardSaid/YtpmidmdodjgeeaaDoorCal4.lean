/- Layer 2 in plain Lean: each moment has a date; a form with one octet turned is no form of the same moment. No program in sight; no condition. -/
import Derived.Test.YtpmidmdodjgeeaaDoorCal3
namespace IH

theorem year_ex (n : Nat) : ∃ y : Int, 1970 ≤ y ∧ dby y ≤ n ∧ (n : Int) < dby (y + 1) := by
  induction n with
  | zero => exact ⟨1970, by omega, by decide, by decide⟩
  | succ n ih =>
    obtain ⟨y, h0, h1, h2⟩ := ih
    have h3 := dby_succ (y + 1)
    have h4 := leapN_01 (y + 1)
    by_cases h : ((n + 1 : Nat) : Int) < dby (y + 1)
    · exact ⟨y, h0, by omega, h⟩
    · exact ⟨y + 1, by omega, by omega, by omega⟩
theorem month_ex (y r : Int) (h0 : 0 ≤ r) : ∀ k : Nat, k ≤ 12 → r < cum y (k + 1) → ∃ m : Int, 1 ≤ m ∧ m ≤ 12 ∧ cum y m ≤ r ∧ r < cum y (m + 1) := by
  intro k
  induction k with
  | zero => intro _ h; rw [show ((0 : Nat) : Int) + 1 = 1 from rfl, cum_1] at h; omega
  | succ k ih =>
    intro hk h
    by_cases h1 : r < cum y (k + 1)
    · exact ih (by omega) h1
    · exact ⟨((k + 1 : Nat) : Int), by omega, by omega, by have e : ((k + 1 : Nat) : Int) = (k : Int) + 1 := by omega
                                                           rw [e]; omega, h⟩
theorem moment_ex (mt : Int) (h0 : 0 ≤ mt) (h1 : mt ≤ 253402300799) : ∃ y m d, Moment mt y m d := by
  obtain ⟨y, a0, a1, a2⟩ := year_ex (mt / 86400).toNat
  have e : (((mt / 86400).toNat : Nat) : Int) = mt / 86400 := by omega
  rw [e] at a1 a2
  have h3 := dby_succ y
  obtain ⟨m, b0, b1, b2, b3⟩ := month_ex y (mt / 86400 - dby y) (by omega) 12 (by omega) (by rw [show ((12 : Nat) : Int) + 1 = 13 from rfl, cum_13]; omega)
  have h4 := cum_succ y m b0 b1
  exact ⟨y, m, mt / 86400 - dby y - cum y m + 1, h0, h1, b0, b1, by omega, by omega, by omega⟩

theorem dayN_len7 (w : Int) (h0 : 0 ≤ w) (h1 : w < 7) : 6 ≤ (dayN w).length ∧ (dayN w).length ≤ 9 := by
  have hq : w = 0 ∨ w = 1 ∨ w = 2 ∨ w = 3 ∨ w = 4 ∨ w = 5 ∨ w = 6 := by omega
  rcases hq with rfl | rfl | rfl | rfl | rfl | rfl | rfl <;> decide
theorem form_len {mt y m d : Int} (h : Moment mt y m d) : (formOf 0 mt y m d).length = 29 ∧ 30 ≤ (formOf 1 mt y m d).length ∧ (formOf 1 mt y m d).length ≤ 33 ∧ (formOf 2 mt y m d).length = 24 := by
  have hw := dayN_len7 (mt / 86400 % 7) (by omega) (by omega)
  have hm : (monN m).length = 3 := by
    obtain ⟨a, b, c, e⟩ := monN_three m h.civ.hm1 h.civ.hm2
    rw [e]; rfl
  have hs : (short2 d).length = 2 := by unfold short2; split <;> rfl
  have e0 : formOf 0 mt y m d = form0 y m d (mt / 86400 % 7) (mt % 86400) := rfl
  have e1 : formOf 1 mt y m d = form1 y m d (mt / 86400 % 7) (mt % 86400) := rfl
  have e2 : formOf 2 mt y m d = form2 y m d (mt / 86400 % 7) (mt % 86400) := rfl
  rw [e0, e1, e2]
  have l2 : ∀ n, (d2 n).length = 2 := fun _ => rfl
  have l4 : ∀ n, (d4 n).length = 4 := fun _ => rfl
  simp [form0, form1, form2, clockL, gmt, l2, l4, hm, hs, List.length_append, List.length_take]
  omega
/-- Two forms of one moment of one length are one. -/
theorem form_inj {mt y m d k j : Int} (h : Moment mt y m d) (hk : k = 0 ∨ k = 1 ∨ k = 2) (hj : j = 0 ∨ j = 1 ∨ j = 2) (hl : (formOf k mt y m d).length = (formOf j mt y m d).length) : k = j := by
  obtain ⟨a, b, c, e⟩ := form_len h
  rcases hk with rfl | rfl | rfl <;> rcases hj with rfl | rfl | rfl <;> first | rfl | omega
/-- A text of a form's length that says the form's moment is that form. -/
theorem parse_apart {mt y m d k : Int} (h : Moment mt y m d) (hk : k = 0 ∨ k = 1 ∨ k = 2) (t : List UInt8) (hl : t.length = (formOf k mt y m d).length) (hp : parseL t = (mt, 0)) : t = formOf k mt y m d := by
  rcases (parseL_says t).2 with h1 | ⟨n, ⟨j, y', m', d', hM, hj, rfl⟩, h2⟩
  · rw [h1] at hp; simp at hp
  · rw [h2] at hp
    simp only [Prod.mk.injEq, and_true] at hp
    subst hp
    obtain ⟨rfl, rfl, rfl⟩ := hM.uniq h
    have hj' : j = 0 ∨ j = 1 ∨ j = 2 := by rcases hj with h | h | h
                                           · exact .inl h
                                           · exact .inr (.inl h.1)
                                           · exact .inr (.inr h)
    rw [form_inj h hj' hk hl]
theorem parse_form {mt y m d k : Int} (h : Moment mt y m d) (hk : k = 0 ∨ (k = 1 ∧ y ≤ 2069) ∨ k = 2) : parseL (formOf k mt y m d) = (mt, 0) :=
  (parseL_says _).1 mt ⟨k, y, m, d, h, hk, rfl⟩
theorem parse_err (t : List UInt8) : parseL t = (0, 10) ∨ (parseL t).2 = 0 := by
  rcases (parseL_says t).2 with h | ⟨mt, _, h⟩
  · exact .inl h
  · right; rw [h]
end IH
