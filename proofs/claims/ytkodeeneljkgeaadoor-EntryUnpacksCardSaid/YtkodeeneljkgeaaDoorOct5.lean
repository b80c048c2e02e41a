/- Walks of layer 1: lists cut at commas. No condition but that lengths are within bounds. -/
import Derived.Test.YtkodeeneljkgeaaDoorKt
import Derived.Test.YtkodeeneljkgeaaDoorPm
import Derived.Test.YtkodeeneljkgeaaDoorOct2
namespace Go.Proofs.YtkodeeneljkgeaaDoor
open Go.RowKit IH
set_option maxRecDepth 100000

theorem byte_lit (c : UInt8) (n : Nat) (h : n < 256) : (((c.toNat : Int) == (n : Int)) = true) ↔ c = UInt8.ofNat n := by
  rw [beq_iff_eq, ← UInt8.toNat_inj]
  simp only [UInt8.toNat_ofNat']
  omega

/-- Where the code's search for a comma stands: at k, what is left says the rest; or one behind the end. -/
def commaAt (l : List UInt8) (k : Nat) (ins : Bool) : Prop :=
  (k ≤ l.length ∧ comma false false l = k + comma ins false (l.drop k)) ∨ (k = l.length + 1 ∧ comma false false l = l.length)


def strsV (L : List (List UInt8)) : List Value := L.map fun l => .string ⟨l.toArray⟩
theorem strsV_length (L : List (List UInt8)) : (strsV L).length = L.length := by simp [strsV]
theorem strsV_append (a b : List (List UInt8)) : strsV (a ++ b) = strsV a ++ strsV b := by simp [strsV]
theorem strsV_get (L : List (List UInt8)) (j : Nat) : (strsV L)[j]? = L[j]?.map fun l => .string ⟨l.toArray⟩ := by simp [strsV]
theorem strsV_one (L : List (List UInt8)) : ∀ u ∈ strsV L, u.oneCell' = true := by
  intro u hu
  obtain ⟨c, _, rfl⟩ := List.mem_map.1 hu
  rfl
def total (L : List (List UInt8)) : Nat := (L.map List.length).sum
theorem total_take_le (L : List (List UInt8)) (k : Nat) : total (L.take k) ≤ total L := by
  have : total L = total (L.take k) + total (L.drop k) := by
    unfold total
    rw [← List.sum_append, ← List.map_append, List.take_append_drop]
  omega
theorem total_split (L : List (List UInt8)) (k : Nat) (l : List UInt8) (h : L[k]? = some l) : total L = total (L.take k) + l.length + total (L.drop (k + 1)) := by
  obtain ⟨hk, rfl⟩ := List.getElem?_eq_some_iff.1 h
  unfold total
  conv => lhs; rw [← List.take_append_drop k L, List.drop_eq_getElem_cons hk]
  rw [List.map_append, List.sum_append, List.map_cons, List.sum_cons]
  omega

end Go.Proofs.YtkodeeneljkgeaaDoor
