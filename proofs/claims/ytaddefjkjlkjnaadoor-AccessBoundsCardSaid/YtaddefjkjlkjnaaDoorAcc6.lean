/- Walks of layer 28: a kind's word, what stands for an empty text, a number's digits. No condition but that numbers are ints. -/
import Derived.Test.YtaddefjkjlkjnaaDoorAcc5
import Derived.Test.YtaddefjkjlkjnaaDoorScr2
namespace Go.Proofs.YtaddefjkjlkjnaaDoor
open Go.RowKit IH
set_option maxRecDepth 100000

def word28 (k : Int) : List UInt8 :=
  if k = 1 then [104, 105, 116] else if k = 2 then [99, 104, 101, 99, 107] else if k = 3 then [114, 101, 108, 97, 121] else if k = 4 then [102, 97, 117, 108, 116] else if k = 5 then [98, 114, 101, 97, 107] else []
def dash28 (s : List UInt8) : List UInt8 := if s.isEmpty then [45] else s

set_option maxHeartbeats 4000000 in
theorem Word_any (k : Int) (w : World) :
    Calls Tryd.prog 28 #[.int .i64 k] w fun e w' => e = .returned (.string ⟨(word28 k).toArray⟩) ∧ w = w' := by
  by_cases h1 : k = 1
  · subst h1
    go_enter Tryd.func28, Tryd.ntmps28
    go_wp2
    go_ret
    exact ⟨rfl, rfl⟩
  · by_cases h2 : k = 2
    · subst h2
      go_enter Tryd.func28, Tryd.ntmps28
      go_wp2
      go_ret
      exact ⟨rfl, rfl⟩
    · by_cases h3 : k = 3
      · subst h3
        go_enter Tryd.func28, Tryd.ntmps28
        go_wp2
        go_ret
        exact ⟨rfl, rfl⟩
      · by_cases h4 : k = 4
        · subst h4
          go_enter Tryd.func28, Tryd.ntmps28
          go_wp2
          go_ret
          exact ⟨rfl, rfl⟩
        · by_cases h5 : k = 5
          · subst h5
            go_enter Tryd.func28, Tryd.ntmps28
            go_wp2
            go_ret
            exact ⟨rfl, rfl⟩
          · have e1 : (k == 1) = false := by simpa using h1
            have e2 : (k == 2) = false := by simpa using h2
            have e3 : (k == 3) = false := by simpa using h3
            have e4 : (k == 4) = false := by simpa using h4
            have e5 : (k == 5) = false := by simpa using h5
            have hw : word28 k = [] := by unfold word28; rw [if_neg h1, if_neg h2, if_neg h3, if_neg h4, if_neg h5]
            rw [hw]
            go_enter Tryd.func28, Tryd.ntmps28
            go_wp2
            go_ret
            exact ⟨rfl, rfl⟩

theorem dashed_any (s : List UInt8) (w : World) :
    Calls Tryd.prog 120 #[.string ⟨s.toArray⟩] w fun e w' => e = .returned (.string ⟨(dash28 s).toArray⟩) ∧ w = w' := by
  rcases s with _ | ⟨c, s⟩
  · go_enter Tryd.func120, Tryd.ntmps120
    go_wp2
    go_ret
    exact ⟨rfl, rfl⟩
  · have hd : dash28 (c :: s) = c :: s := rfl
    rw [hd]
    have e : ((⟨(c :: s).toArray⟩ : ByteArray).toList == ([] : List UInt8)) = false := by rw [ByteArray.toList_eq]; rfl
    generalize (⟨(c :: s).toArray⟩ : ByteArray) = S at *
    go_enter Tryd.func120, Tryd.ntmps120
    go_wp2
    go_ret
    exact ⟨rfl, rfl⟩

theorem digits28_any (n : Int) (h0 : -9223372036854775808 ≤ n) (h1 : n ≤ 9223372036854775807) (w : World) :
    Calls Tryd.prog 119 #[.int .i64 n] w fun e w' => e = .returned (.string ⟨(digs 10 64 n.toNat).toArray⟩) ∧ ∃ nq, w' = w.drewN nq := by
  go_enter Tryd.func119, Tryd.ntmps119
  go_wp2_with (go_at_call 101; refine (Print10_any n 10 h0 h1 (by decide) _).mono ?_; rintro e w' ⟨rfl, nq, rfl⟩)
  go_ret
  exact ⟨rfl, nq, rfl⟩
end Go.Proofs.YtaddefjkjlkjnaaDoor
