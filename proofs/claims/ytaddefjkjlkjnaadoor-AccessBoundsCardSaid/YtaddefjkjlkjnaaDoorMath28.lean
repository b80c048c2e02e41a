/- Layer 28's counts in plain Lean: how many were told of each kind, the ages together. No program in sight; no condition. -/
import Derived.Test.YtaddefjkjlkjnaaDoorPm
namespace IH

/-- What was told of one reply. -/
structure Reply where
  conn : Int
  kind : Int
  moment : Int
  lines : Int
  method : List UInt8
  uri : List UInt8
  key : List UInt8
  status : Int
  age : Int

def countK (k : Int) (l : List Reply) : Nat := (l.filter fun t => t.kind == k).length
def aged (t : Reply) : Int := if t.kind = 1 ∨ t.kind = 2 then max 0 (min t.age 1099511627776) else 0
def agesStep (a : Int) (t : Reply) : Int := if t.kind = 1 ∨ t.kind = 2 then min (a + max 0 (min t.age 1099511627776)) 1152921504606846975 else a
def agesOf (l : List Reply) : Int := l.foldl agesStep 0
def ofConn (conn : Int) (l : List Reply) : List Reply := l.filter fun t => t.conn == conn && !(t.kind == 5)

theorem aged_nonneg (t : Reply) : 0 ≤ aged t := by unfold aged; split <;> omega
theorem agesStep_eq (a : Int) (t : Reply) (h0 : 0 ≤ a) (h1 : a ≤ 1152921504606846975) : agesStep a t = min (a + aged t) 1152921504606846975 := by
  unfold agesStep aged
  split <;> omega
theorem agesStep_bound (a : Int) (t : Reply) (h0 : 0 ≤ a) (h1 : a ≤ 1152921504606846975) : 0 ≤ agesStep a t ∧ agesStep a t ≤ 1152921504606846975 := by
  rw [agesStep_eq a t h0 h1]
  have := aged_nonneg t
  omega
theorem ages_foldl (l : List Reply) (a : Int) (h0 : 0 ≤ a) (h1 : a ≤ 1152921504606846975) : l.foldl agesStep a = min (a + (l.map aged).sum) 1152921504606846975 ∧ 0 ≤ (l.map aged).sum := by
  induction l generalizing a with
  | nil => simp; omega
  | cons t l ih =>
    obtain ⟨h2, h3⟩ := agesStep_bound a t h0 h1
    obtain ⟨h4, h5⟩ := ih _ h2 h3
    have h6 := aged_nonneg t
    rw [List.foldl_cons, h4, agesStep_eq a t h0 h1, List.map_cons, List.sum_cons]
    omega
theorem agesOf_sum (l : List Reply) : agesOf l = min ((l.map aged).sum) 1152921504606846975 ∧ 0 ≤ (l.map aged).sum := by
  have := ages_foldl l 0 (by omega) (by omega)
  rw [Int.zero_add] at this
  exact this
theorem agesOf_bound (l : List Reply) : 0 ≤ agesOf l ∧ agesOf l ≤ 1152921504606846975 := by
  have := agesOf_sum l
  omega
theorem agesOf_append (a b : List Reply) : agesOf (a ++ b) = min (agesOf a + agesOf b) 1152921504606846975 := by
  have h1 := agesOf_sum a
  have h2 := agesOf_sum b
  have h3 := agesOf_sum (a ++ b)
  rw [List.map_append, List.sum_append] at h3
  omega
theorem agesOf_snoc (l : List Reply) (t : Reply) : agesOf (l ++ [t]) = agesStep (agesOf l) t := by simp [agesOf]
theorem countK_append (k : Int) (a b : List Reply) : countK k (a ++ b) = countK k a + countK k b := by simp [countK]
theorem countK_le (k : Int) (l : List Reply) : countK k l ≤ l.length := List.length_filter_le _ _
theorem countK_snoc (k : Int) (l : List Reply) (t : Reply) : countK k (l ++ [t]) = countK k l + if t.kind = k then 1 else 0 := by
  rw [countK_append]
  congr 1
  unfold countK
  by_cases h : t.kind = k <;> simp [h]
end IH
