/- Walks of layer 19: a key cut by the document. Condition: texts within 10^9 octets. -/
import Derived.Test.YtkodeeneljkgeaaDoorKt
import Derived.Test.YtkodeeneljkgeaaDoorShelf
namespace Go.Proofs.YtkodeeneljkgeaaDoor
open Go.RowKit
set_option maxRecDepth 100000
/-- The text ahead of the first LF, and the text behind it. -/
def hd (l : List UInt8) : List UInt8 := l.takeWhile (· != 10)
def tl (l : List UInt8) : List UInt8 := (l.dropWhile (· != 10)).drop 1

theorem hd_none {l : List UInt8} (h : ∀ c ∈ l, c ≠ 10) : hd l = l ∧ tl l = [] := by
  unfold hd tl
  induction l with
  | nil => simp
  | cons a l ih =>
    have h1 := h a (by simp)
    have h2 := ih fun c hc => h c (by simp [hc])
    simp [h1, h2]
theorem hd_some {a b : List UInt8} (h : ∀ c ∈ a, c ≠ 10) : hd (a ++ 10 :: b) = a ∧ tl (a ++ 10 :: b) = b := by
  unfold hd tl
  induction a with
  | nil => simp
  | cons x l ih =>
    have h1 := h x (by simp)
    have h2 := ih fun c hc => h c (by simp [hc])
    simp [h1, h2]
theorem parts (l : List UInt8) : (∀ c ∈ l, c ≠ 10) ∨ ∃ a b, l = a ++ 10 :: b ∧ ∀ c ∈ a, c ≠ 10 := by
  induction l with
  | nil => left; simp
  | cons x l ih =>
    by_cases h : x = 10
    · right; exact ⟨[], l, by simp [h], by simp⟩
    · rcases ih with ih | ⟨a, b, rfl, ih⟩
      · left
        intro c hc
        rcases List.mem_cons.1 hc with rfl | hc
        · exact h
        · exact ih c hc
      · right
        refine ⟨x :: a, b, rfl, ?_⟩
        intro c hc
        rcases List.mem_cons.1 hc with rfl | hc
        · exact h
        · exact ih c hc

theorem refCut_any (s : ByteArray) (w : World) (hs : s.size ≤ 1000000000) :
    Calls Tryd.prog 27 #[.string s] w fun e w' => e = .returned (.tuple #[.string ⟨(hd s.data.toList).toArray⟩, .string ⟨(tl s.data.toList).toArray⟩]) ∧ ∃ n, w' = w.drewN n := by
  go_enter Tryd.func27, Tryd.ntmps27
  go_wp2
  go_loop [4] (fun i => ∃ k : Nat, k ≤ s.size ∧ i = .int .i64 k ∧ ∀ c ∈ s.data.toList.take k, c ≠ 10) (fun i => s.size - (intOf i).toNat)
  case atStart => exact ⟨0, by omega, rfl, by simp⟩
  case round =>
    obtain ⟨k, hk, rfl, hix⟩ := hrel
    have Hix := Lib.hid hix; clear hix
    by_cases hlt : k < s.size
    · by_cases h10 : ((s[k].toNat : Int) == 10) = true
      · go_wp2
        go_quiet (fail)
        go_wp2
        go_ret2
        have hh := hd_some (a := s.data.toList.take k) (b := s.data.toList.drop (k + 1)) Hix.out
        have h10' : s[k] = 10 := byte_is (b := 10) h10
        rw [← h10', ← data_split s k hlt] at hh
        refine ⟨ret_str2 (bytes_eq ?_) (bytes_eq ?_), _, rfl⟩
        · rw [hh.1, take_data _ _ (by omega)]
        · rw [hh.2, drop_data]
      · have h10' : ((s[k].toNat : Int) == 10) = false := by simpa using h10
        clear h10
        go_wp2
        go_round
        case rel =>
          refine ⟨k + 1, by omega, by go_num, ?_⟩
          rw [data_take_succ s k hlt]
          intro c hc
          rcases List.mem_append.1 hc with hc | hc
          · exact Hix.out c hc
          · rw [List.mem_singleton.1 hc]; exact byte_ne (b := 10) h10'
        case measure => simp [intOf]; omega
    · go_wp2
      go_ret2
      have h1 := Hix.out
      rw [List.take_of_length_le (by rw [data_len]; omega)] at h1
      obtain ⟨h2, h3⟩ := hd_none h1
      exact ⟨ret_str2 (bytes_eq h2.symm) (bytes_eq (by rw [h3])), 0, rfl⟩
end Go.Proofs.YtkodeeneljkgeaaDoor
