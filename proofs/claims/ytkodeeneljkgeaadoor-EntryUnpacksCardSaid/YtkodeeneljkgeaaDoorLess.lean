/- Texts in their order, octet by octet, in plain Lean. No program in sight; no condition. -/
import Derived.Test.YtkodeeneljkgeaaDoorPm
namespace IH
set_option maxRecDepth 100000

/-- As in a dictionary, octet by octet. -/
def lessB : List UInt8 → List UInt8 → Bool
  | _, [] => false
  | [], _ :: _ => true
  | a :: x, b :: y => if a = b then lessB x y else decide (a.toNat < b.toNat)
theorem lessB_irrefl (x : List UInt8) : lessB x x = false := by
  induction x with
  | nil => rfl
  | cons a x ih => simp [lessB, ih]
theorem lessB_trans : ∀ {x y z : List UInt8}, lessB x y = true → lessB y z = true → lessB x z = true
  | [], [], z, h, _ => by cases h
  | [], b :: y, [], _, h => by cases h
  | [], b :: y, c :: z, _, _ => rfl
  | a :: x, [], z, h, _ => by cases h
  | a :: x, b :: y, [], _, h => by cases h
  | a :: x, b :: y, c :: z, h1, h2 => by
    unfold lessB at h1 h2 ⊢
    by_cases e1 : a = b
    · subst e1
      rw [if_pos rfl] at h1
      by_cases e2 : a = c
      · rw [if_pos e2] at h2 ⊢
        exact lessB_trans h1 h2
      · rw [if_neg e2] at h2 ⊢
        exact h2
    · rw [if_neg e1] at h1
      simp only [decide_eq_true_eq] at h1
      by_cases e2 : b = c
      · subst e2
        rw [if_neg e1]; simpa using h1
      · rw [if_neg e2] at h2
        simp only [decide_eq_true_eq] at h2
        have e3 : a ≠ c := by intro e; subst e; omega
        rw [if_neg e3]
        simp; omega
theorem lessB_total : ∀ {x y : List UInt8}, x ≠ y → lessB x y = false → lessB y x = true
  | [], [], h, _ => absurd rfl h
  | [], b :: y, _, h => by cases h
  | a :: x, [], _, _ => rfl
  | a :: x, b :: y, h, h1 => by
    unfold lessB at h1 ⊢
    by_cases e : a = b
    · subst e
      rw [if_pos rfl] at h1 ⊢
      exact lessB_total (fun e => h (by rw [e])) h1
    · rw [if_neg e] at h1
      rw [if_neg (Ne.symm e)]
      simp only [decide_eq_false_iff_not, decide_eq_true_eq] at h1 ⊢
      have : a.toNat ≠ b.toNat := fun h => e (UInt8.toNat_inj.1 h)
      omega
end IH
