/- The law EntryKeys returns true for every input: keys are cut into what they were made of. No condition. -/
import Derived.Test.YtamoebdfppjbkaaBase
import Derived.Test.YtamoebdfppjbkaaShelf
namespace Go.Proofs.Ytamoebdfppjbkaa
open Go.RowKit

def need (n : Int) : Int := if n < 1 then 0 else (n - 1) / 64 + 1
theorem sectors_any (n : Int) (w : World) (h : n ≤ 2097152) (h' : -5 ≤ n) :
    Calls Try.prog 9 #[.int .i64 n] w fun e w' => e = .returned (.int .i64 (need n)) ∧ w = w' := by
  unfold need
  by_cases h1 : n < 1
  · rw [if_pos h1]
    go_enter Try.func9, Try.ntmps9
    go_wp2
    go_ret
    exact ⟨rfl, rfl⟩
  · rw [if_neg h1]
    go_enter Try.func9, Try.ntmps9
    go_wp2
    go_ret
    exact ⟨rfl, rfl⟩

theorem refNeed_any (n : Int) (w : World) (h : n ≤ 2097152) (h' : -5 ≤ n) :
    Calls Try.prog 10 #[.int .i64 n] w fun e w' => e = .returned (.int .i64 (need n)) ∧ w = w' := by
  go_enter Try.func10, Try.ntmps10
  go_wp2
  go_loop [0, 3] (fun m k => ∃ j : Int, 0 ≤ j ∧ j ≤ 40000 ∧ -70 ≤ n - 64 * j ∧ m = .int .i64 (n - 64 * j) ∧ k = .int .i64 j ∧ (j = 0 ∨ 0 < n - 64 * (j - 1))) (fun m _ => (intOf m).toNat)
  case atStart => exact ⟨0, by omega, by omega, by omega, by simp, rfl, by simp⟩
  case round =>
    obtain ⟨j, hj0, hj1, hj2, rfl, rfl, hj3⟩ := hrel
    by_cases hlt : 0 < n - 64 * j
    · go_wp2
      go_round
      case rel => exact ⟨j + 1, by omega, by omega, by omega, by go_num, rfl, by omega⟩
      case measure => simp [intOf]; omega
    · go_wp2
      go_ret
      refine ⟨ret_int ?_, rfl⟩
      unfold need
      split <;> omega

/-- The text ahead of the first LF, and the text behind it. -/
def hd (l : List UInt8) : List UInt8 := l.takeWhile (· != 10)
def tl (l : List UInt8) : List UInt8 := (l.dropWhile (· != 10)).drop 1
def hasLF (l : List UInt8) : Bool := l.any (· == 10)

theorem ix_none {l : List UInt8} (h : ∀ c ∈ l, c ≠ 10) : Lib.indexByte l 10 = -1 := by
  induction l with
  | nil => rfl
  | cons a l ih =>
    have h1 := h a (by simp)
    have h2 := ih fun c hc => h c (by simp [hc])
    simp [Lib.indexByte, h1, h2]
theorem ix_some {a b : List UInt8} (h : ∀ c ∈ a, c ≠ 10) : Lib.indexByte (a ++ 10 :: b) 10 = a.length := by
  induction a with
  | nil => simp [Lib.indexByte]
  | cons x l ih =>
    have h1 := h x (by simp)
    have h2 := ih fun c hc => h c (by simp [hc])
    simp [Lib.indexByte, h1, h2]
theorem hd_none {l : List UInt8} (h : ∀ c ∈ l, c ≠ 10) : hd l = l ∧ tl l = [] := by
  unfold hd tl
  induction l with
  | nil => simp
  | cons a l ih =>
    have h1 := h a (by simp)
    have h2 := ih fun c hc => h c (by simp [hc])
    simp [h1, h2]
theorem hd_some {a b : List UInt8} (h : ∀ c ∈ a, c ≠ 10) : hd (a ++ 10 :: b) = a ∧ tl (a ++ 10 :: b) = b := by
  unfold hd tl
  induction a with
  | nil => simp
  | cons x l ih =>
    have h1 := h x (by simp)
    have h2 := ih fun c hc => h c (by simp [hc])
    simp [h1, h2]
theorem parts (l : List UInt8) : (∀ c ∈ l, c ≠ 10) ∨ ∃ a b, l = a ++ 10 :: b ∧ ∀ c ∈ a, c ≠ 10 := by
  induction l with
  | nil => left; simp
  | cons x l ih =>
    by_cases h : x = 10
    · right; exact ⟨[], l, by simp [h], by simp⟩
    · rcases ih with ih | ⟨a, b, rfl, ih⟩
      · left
        intro c hc
        rcases List.mem_cons.1 hc with rfl | hc
        · exact h
        · exact ih c hc
      · right
        refine ⟨x :: a, b, rfl, ?_⟩
        intro c hc
        rcases List.mem_cons.1 hc with rfl | hc
        · exact h
        · exact ih c hc

theorem sliteCut_any (s : ByteArray) (w : World) (hs : s.size ≤ 10000) :
    Calls Try.prog 19 #[.string s, .string ⟨#[10]⟩] w fun e w' => e = .returned (.tuple #[.string ⟨(hd s.data.toList).toArray⟩, .string ⟨(tl s.data.toList).toArray⟩, .bool (hasLF s.data.toList)]) ∧ ∃ n, w' = w.drewN n := by
  rcases parts s.data.toList with h | ⟨a, b, hab, h⟩
  · have hi := ix_none h
    obtain ⟨h1, h2⟩ := hd_none h
    have h3 : hasLF s.data.toList = false := by simp only [hasLF, List.any_eq_false, beq_iff_eq]; exact fun c hc => h c hc
    rw [h1, h2, h3, Lib.mk_data]
    have Hi := Lib.hid hi
    clear hi h1 h2 h3 h
    go_enter Try.func19, Try.ntmps19
    go_wp2_with (go_at_call 25; refine (Try.stringslite_Index_one s 10 _).mono ?_; rw [Hi.out]; rintro e w' ⟨rfl, rfl⟩)
    go_ret3
    exact ⟨rfl, 0, rfl⟩
  · have hi := ix_some (b := b) h
    obtain ⟨h1, h2⟩ := hd_some (b := b) h
    have h3 : hasLF s.data.toList = true := by rw [hab]; simp [hasLF]
    have hl : a.length < s.size := by rw [← data_len, hab]; simp
    have ha : s.extract 0 a.length = ⟨a.toArray⟩ := bytes_eq (by rw [take_data _ _ (by omega), hab]; simp)
    have hb : s.extract (a.length + 1) s.size = ⟨b.toArray⟩ := bytes_eq (by rw [drop_data, hab]; simp)
    rw [← hab] at hi h1 h2
    rw [h1, h2, h3, ← ha, ← hb]
    have Hi := Lib.hid hi
    generalize a.length = n at *
    clear hi h1 h2 h3 h ha hb hab
    go_enter Try.func19, Try.ntmps19
    go_wp2_with (go_at_call 25; refine (Try.stringslite_Index_one s 10 _).mono ?_; rw [Hi.out]; rintro e w' ⟨rfl, rfl⟩)
    go_quiet (fail)
    go_wp2
    go_ret3
    exact ⟨rfl, _, rfl⟩

theorem strCut_any (s : ByteArray) (w : World) (hs : s.size ≤ 10000) :
    Calls Try.prog 17 #[.string s, .string ⟨#[10]⟩] w fun e w' => e = .returned (.tuple #[.string ⟨(hd s.data.toList).toArray⟩, .string ⟨(tl s.data.toList).toArray⟩, .bool (hasLF s.data.toList)]) ∧ ∃ n, w' = w.drewN n := by
  go_enter Try.func17, Try.ntmps17
  go_wp2_with (go_at_call 19; refine (sliteCut_any s _ hs).mono ?_; rintro e w' ⟨rfl, n, rfl⟩)
  go_ret3
  exact ⟨rfl, _, rfl⟩

theorem cut_any (s : ByteArray) (w : World) (hs : s.size ≤ 10000) :
    Calls Try.prog 6 #[.string s] w fun e w' => e = .returned (.tuple #[.string ⟨(hd s.data.toList).toArray⟩, .string ⟨(tl s.data.toList).toArray⟩]) ∧ ∃ n, w' = w.drewN n := by
  go_enter Try.func6, Try.ntmps6
  go_wp2_with (go_at_call 17; refine (strCut_any s _ hs).mono ?_; rintro e w' ⟨rfl, n, rfl⟩)
  go_ret2
  exact ⟨rfl, _, rfl⟩

theorem refCut_any (s : ByteArray) (w : World) (hs : s.size ≤ 10000) :
    Calls Try.prog 8 #[.string s] w fun e w' => e = .returned (.tuple #[.string ⟨(hd s.data.toList).toArray⟩, .string ⟨(tl s.data.toList).toArray⟩]) ∧ ∃ n, w' = w.drewN n := by
  go_enter Try.func8, Try.ntmps8
  go_wp2
  go_loop [4] (fun i => ∃ k : Nat, k ≤ s.size ∧ i = .int .i64 k ∧ ∀ c ∈ s.data.toList.take k, c ≠ 10) (fun i => s.size - (intOf i).toNat)
  case atStart => exact ⟨0, by omega, rfl, by simp⟩
  case round =>
    obtain ⟨k, hk, rfl, hix⟩ := hrel
    have Hix := Lib.hid hix; clear hix
    by_cases hlt : k < s.size
    · by_cases h10 : ((s[k].toNat : Int) == 10) = true
      · go_wp2
        go_quiet (fail)
        go_wp2
        go_ret2
        have hh := hd_some (a := s.data.toList.take k) (b := s.data.toList.drop (k + 1)) Hix.out
        have h10' : s[k] = 10 := byte_is (b := 10) h10
        rw [← h10', ← data_split s k hlt] at hh
        refine ⟨ret_str2 (bytes_eq ?_) (bytes_eq ?_), _, rfl⟩
        · rw [hh.1, take_data _ _ (by omega)]
        · rw [hh.2, drop_data]
      · have h10' : ((s[k].toNat : Int) == 10) = false := by simpa using h10
        clear h10
        go_wp2
        go_round
        case rel =>
          refine ⟨k + 1, by omega, by go_num, ?_⟩
          rw [data_take_succ s k hlt]
          intro c hc
          rcases List.mem_append.1 hc with hc | hc
          · exact Hix.out c hc
          · rw [List.mem_singleton.1 hc]; exact byte_ne (b := 10) h10'
        case measure => simp [intOf]; omega
    · go_wp2
      go_ret2
      have h1 := Hix.out
      rw [List.take_of_length_le (by rw [data_len]; omega)] at h1
      obtain ⟨h2, h3⟩ := hd_none h1
      exact ⟨ret_str2 (bytes_eq h2.symm) (bytes_eq (by rw [h3])), 0, rfl⟩

theorem key_any (a b : ByteArray) (w : World) (ha : a.size ≤ 10000) (hb : b.size ≤ 10000) :
    Calls Try.prog 7 #[.string a, .string b] w fun e w' => e = .returned (.string (a ++ ⟨#[10]⟩ ++ b)) ∧ w = w' := by
  go_enter Try.func7, Try.ntmps7
  go_wp2
  go_ret
  exact ⟨rfl, rfl⟩

theorem awake19_any (w : World) : Calls Try.prog 5 #[] w fun e w' => e = .returned (.bool true) ∧ w = w' := by
  have hk : ((⟨#[104, 116, 116, 112, 58, 47, 47, 97, 47]⟩ ++ ⟨#[10]⟩ ++ ⟨#[120, 10]⟩ : ByteArray)).toList = [104, 116, 116, 112, 58, 47, 47, 97, 47, 10, 120, 10] := by rw [ByteArray.toList_eq]; simp
  go_enter Try.func5, Try.ntmps5
  go_wp2
  go_ret
  exact ⟨rfl, rfl⟩

theorem long_any (a0 a1 : ByteArray) (a2 : Int) (h : 500 < a0.size ∨ 500 < a1.size) (w : World) :
    Calls Try.prog 3 #[.string a0, .string a1, .int .i64 a2] w fun e w' => e = .returned (.bool true) ∧ Grown w w' := by
  by_cases h0 : 500 < a0.size
  · go_enter Try.func3, Try.ntmps3
    go_wp2_with (go_at_call 5; refine (awake19_any _).mono ?_; rintro e w' ⟨rfl, rfl⟩)
    go_ret
    exact ⟨rfl, Grown.refl _⟩
  · have h1 : 500 < a1.size := by omega
    go_enter Try.func3, Try.ntmps3
    go_wp2_with (go_at_call 5; refine (awake19_any _).mono ?_; rintro e w' ⟨rfl, rfl⟩)
    go_ret
    exact ⟨rfl, Grown.refl _⟩

theorem law_walk (a0 a1 : ByteArray) (a2 : Int) (_w0 : a0.size ≤ maxLen) (_w1 : a1.size ≤ maxLen) (_w2 : (Lit.int .i64 a2).wf = true) (w : World) :
    Calls Try.prog 3 #[.string a0, .string a1, .int .i64 a2] w fun e w' => e = .returned (.bool true) ∧ Grown w w' := by
  by_cases h : 500 < a0.size ∨ 500 < a1.size
  · exact long_any a0 a1 a2 h w
  have h0 : a0.size ≤ 500 := by omega
  have h1 : a1.size ≤ 500 := by omega
  clear h
  have hsz : (a0 ++ ⟨#[10]⟩ ++ a1 : ByteArray).size ≤ 10000 := by simp only [ByteArray.size_append]; show a0.size + 1 + a1.size ≤ 10000; omega
  have hn1 : -5 ≤ min (max a2 (-5)) 2097152 := by omega
  have hn2 : min (max a2 (-5)) 2097152 ≤ 2097152 := by omega
  rcases parts a0.data.toList with h | ⟨a, b, hab, h⟩
  · have e1 : hd a0.data.toList = a0.toList := by rw [ByteArray.toList_eq]; exact (hd_none h).1
    have e2 : tl a0.data.toList = [] := (hd_none h).2
    have e3 : hd (a0.data.toList ++ 10 :: a1.data.toList) = a0.toList := by rw [ByteArray.toList_eq]; exact (hd_some h).1
    have e4 : tl (a0.data.toList ++ 10 :: a1.data.toList) = a1.toList := by rw [ByteArray.toList_eq]; exact (hd_some h).2
    clear h
    go_enter Try.func3, Try.ntmps3
    go_wp2_with (first
      | (go_at_call 5; refine (awake19_any _).mono ?_; rintro e w' ⟨rfl, rfl⟩)
      | (go_at_call 7; refine (key_any _ _ _ (by omega) (by omega)).mono ?_; rintro e w' ⟨rfl, rfl⟩)
      | (go_at_call 6; refine (cut_any _ _ (by first | assumption | omega)).mono ?_; rintro e w' ⟨rfl, n, rfl⟩)
      | (go_at_call 8; refine (refCut_any _ _ (by omega)).mono ?_; rintro e w' ⟨rfl, n', rfl⟩)
      | (go_at_call 9; refine (sectors_any _ _ hn2 hn1).mono ?_; rintro e w' ⟨rfl, rfl⟩)
      | (go_at_call 10; refine (refNeed_any _ _ hn2 hn1).mono ?_; rintro e w' ⟨rfl, rfl⟩))
    go_ret
    exact ⟨rfl, grown_drewN w _⟩
  · have e1 : (hd a0.data.toList == a0.toList) = false := by
      rw [ByteArray.toList_eq, hab, (hd_some h).1, beq_eq_false_iff_ne]
      intro hc
      have := congrArg List.length hc
      simp at this
    clear h hab
    go_enter Try.func3, Try.ntmps3
    go_wp2_with (first
      | (go_at_call 5; refine (awake19_any _).mono ?_; rintro e w' ⟨rfl, rfl⟩)
      | (go_at_call 7; refine (key_any _ _ _ (by omega) (by omega)).mono ?_; rintro e w' ⟨rfl, rfl⟩)
      | (go_at_call 6; refine (cut_any _ _ (by first | assumption | omega)).mono ?_; rintro e w' ⟨rfl, n, rfl⟩)
      | (go_at_call 8; refine (refCut_any _ _ (by omega)).mono ?_; rintro e w' ⟨rfl, n', rfl⟩)
      | (go_at_call 9; refine (sectors_any _ _ hn2 hn1).mono ?_; rintro e w' ⟨rfl, rfl⟩)
      | (go_at_call 10; refine (refNeed_any _ _ hn2 hn1).mono ?_; rintro e w' ⟨rfl, rfl⟩))
    all_goals
      go_ret
      exact ⟨rfl, grown_drewN w _⟩
end Go.Proofs.Ytamoebdfppjbkaa
