/- Small facts on strings as lists of octets, and on what calls return. Plain; no condition. -/
import Derived.Test.YtpmidmdodjgeeaaDoorRows
import Derived.WalkKit
import Derived.WalkSpells
import Derived.WalkLawsBesides
import Derived.Lib.Hide
import Derived.BigQuiet
import Derived.Deep.QuietTactic
import Derived.Deep.DeepFit
import Derived.Deep.Draws
import Derived.Lib.CutLaws
namespace Go.Proofs.YtpmidmdodjgeeaaDoor
open Go.RowKit

theorem ret_int {k : IntKind} {a b : Int} (h : a = b) : Ending.returned (.int k a) = .returned (.int k b) := by rw [h]
theorem ret_bool {a b : Bool} (h : a = b) : Ending.returned (.bool a) = .returned (.bool b) := by rw [h]
theorem ret_str {a b : ByteArray} (h : a = b) : Ending.returned (.string a) = .returned (.string b) := by rw [h]
theorem ret_str2 {a b c d : ByteArray} (h : a = b) (h' : c = d) : Ending.returned (.tuple #[.string a, .string c]) = .returned (.tuple #[.string b, .string d]) := by rw [h, h']

/-- A string whose octets are a list. -/
theorem bytes_eq {s : ByteArray} {l : List UInt8} (h : s.data.toList = l) : s = ⟨l.toArray⟩ := by
  subst h; exact (Lib.mk_data s).symm
theorem bytes_inj {a b : ByteArray} (h : a.data.toList = b.data.toList) : a = b := by
  rw [bytes_eq h, Lib.mk_data]
theorem take_data (s : ByteArray) (k : Nat) (_h : k ≤ s.size) : (s.extract 0 k).data.toList = s.data.toList.take k := by
  rw [Lib.extract_data]; simp
theorem drop_data (s : ByteArray) (k : Nat) : (s.extract k s.size).data.toList = s.data.toList.drop k := Lib.extract_to_end s k
theorem append_data (s t : ByteArray) : (s ++ t).data.toList = s.data.toList ++ t.data.toList := by simp
theorem get_data (s : ByteArray) (k : Nat) (h : k < s.size) : s.data.toList[k]? = some s[k] := Lib.data_getElem? s k h
theorem data_len (s : ByteArray) : s.data.toList.length = s.size := (Lib.size_eq s).symm
theorem data_split (s : ByteArray) (k : Nat) (h : k < s.size) : s.data.toList = s.data.toList.take k ++ s[k] :: s.data.toList.drop (k + 1) := by
  have h1 : k < s.data.toList.length := by rw [data_len]; exact h
  have h2 : s.data.toList[k] = s[k] := by
    have := get_data s k h
    rw [List.getElem?_eq_getElem h1] at this
    exact Option.some.inj this
  conv => lhs; rw [← List.take_append_drop k s.data.toList, List.drop_eq_getElem_cons h1, h2]
theorem data_take_succ (s : ByteArray) (k : Nat) (h : k < s.size) : s.data.toList.take (k + 1) = s.data.toList.take k ++ [s[k]] := by
  rw [List.take_add_one, get_data s k h]; rfl
theorem data_drop (s : ByteArray) (k : Nat) (h : k < s.size) : s.data.toList.drop k = s[k] :: s.data.toList.drop (k + 1) := by
  have h1 : k < s.data.toList.length := by rw [data_len]; exact h
  have h2 : s.data.toList[k] = s[k] := by
    have := get_data s k h
    rw [List.getElem?_eq_getElem h1] at this
    exact Option.some.inj this
  rw [List.drop_eq_getElem_cons h1, h2]
theorem size_mk (l : List UInt8) : (⟨l.toArray⟩ : ByteArray).size = l.length := by rw [← data_len]
theorem byte_ne {a b : UInt8} (h : ((a.toNat : Int) == (b.toNat : Int)) = false) : a ≠ b := by
  rintro rfl; simp at h
theorem byte_is {a b : UInt8} (h : ((a.toNat : Int) == (b.toNat : Int)) = true) : a = b :=
  UInt8.toNat_inj.1 (by have := eq_of_beq h; omega)

/-- Equality of strings, as the walk spells it. -/
theorem str_eq (a b : ByteArray) : (a.toList == b.toList) = decide (a = b) := by
  rw [ByteArray.toList_eq, ByteArray.toList_eq]
  by_cases h : a = b
  · subst h; simp
  · simp only [h, decide_false]
    rw [beq_eq_false_iff_ne]
    exact fun hh => h (bytes_inj hh)

theorem below_drewN {B : Nat} {a w : World} (h : Below B a w) (n : Nat) : Below B a (w.drewN n) := ⟨h.os, h.tape, h.output, h.size, h.block⟩
theorem grown_drewN (w : World) (n : Nat) : Grown w (w.drewN n) := by
  induction n with
  | zero => exact Grown.refl _
  | succ n ih => exact Grown.drew ih
end Go.Proofs.YtpmidmdodjgeeaaDoor
