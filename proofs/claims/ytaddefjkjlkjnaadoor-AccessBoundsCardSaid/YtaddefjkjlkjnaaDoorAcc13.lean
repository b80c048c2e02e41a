/- Walks of layer 28's document: a kind's word, numbers in bounds, visible texts. Condition: texts are within bounds. -/
import Derived.Test.YtaddefjkjlkjnaaDoorAcc11
import Derived.Test.YtaddefjkjlkjnaaDoorOct12
import Derived.Test.YtaddefjkjlkjnaaDoorScr6
namespace Go.Proofs.YtaddefjkjlkjnaaDoor
open Go.RowKit IH
set_option maxRecDepth 100000

def wordsV : List Value := [.string ⟨#[]⟩, .string ⟨#[104, 105, 116]⟩, .string ⟨#[99, 104, 101, 99, 107]⟩, .string ⟨#[114, 101, 108, 97, 121]⟩, .string ⟨#[102, 97, 117, 108, 116]⟩, .string ⟨#[98, 114, 101, 97, 107]⟩]
set_option maxHeartbeats 4000000 in
theorem refWord_any (k : Int) (w : World) :
    Calls Tryd.prog 29 #[.int .i64 k] w fun e w' => e = .returned (.string ⟨(word28 k).toArray⟩) ∧ Below w.heap.size w w' := by
  by_cases h1 : k < 1
  · have hw : word28 k = [] := by unfold word28; rw [if_neg (by omega), if_neg (by omega), if_neg (by omega), if_neg (by omega), if_neg (by omega)]
    rw [hw]
    go_enter Tryd.func29, Tryd.ntmps29
    go_wp2
    go_ret
    exact ⟨rfl, (Below.refl _ _).alloc (Nat.le_refl _) _⟩
  · by_cases h5 : 5 < k
    · have hw : word28 k = [] := by unfold word28; rw [if_neg (by omega), if_neg (by omega), if_neg (by omega), if_neg (by omega), if_neg (by omega)]
      rw [hw]
      go_enter Tryd.func29, Tryd.ntmps29
      go_wp2
      go_ret
      exact ⟨rfl, (Below.refl _ _).alloc (Nat.le_refl _) _⟩
    · have hk : k = 1 ∨ k = 2 ∨ k = 3 ∨ k = 4 ∨ k = 5 := by omega
      clear h1 h5
      rcases hk with rfl | rfl | rfl | rfl | rfl
      all_goals
        go_enter Tryd.func29, Tryd.ntmps29
        go_wp2
        go_ret
        exact ⟨rfl, (Below.refl _ _).alloc (Nat.le_refl _) _⟩

theorem refIn_any (n : Int) (w : World) :
    Calls Tryd.prog 68 #[.int .i64 n] w fun e w' => e = .returned (.bool (!far28 n)) ∧ w = w' := by
  by_cases h : n < 0
  · have hf : far28 n = true := by simp [far28, h]
    rw [hf]
    have h' : ¬ 0 ≤ n := by omega
    go_enter Tryd.func68, Tryd.ntmps68
    go_wp2
    go_ret
    exact ⟨rfl, rfl⟩
  · by_cases h2 : 1099511627776 < n
    · have hf : far28 n = true := by simp [far28, h2]
      rw [hf]
      go_enter Tryd.func68, Tryd.ntmps68
      go_wp2
      go_ret
      exact ⟨ret_bool (decide_eq_false (by omega)), rfl⟩
    · have hf : far28 n = false := by simp [far28]; omega
      rw [hf]
      go_enter Tryd.func68, Tryd.ntmps68
      go_wp2
      go_ret
      exact ⟨rfl, rfl⟩

theorem refOr_any (s : List UInt8) (w : World) :
    Calls Tryd.prog 71 #[.string ⟨s.toArray⟩] w fun e w' => e = .returned (.string ⟨(dash28 s).toArray⟩) ∧ w = w' := by
  rcases s with _ | ⟨c, s⟩
  · go_enter Tryd.func71, Tryd.ntmps71
    go_wp2
    go_ret
    exact ⟨rfl, rfl⟩
  · have hd : dash28 (c :: s) = c :: s := rfl
    rw [hd]
    have e : ((⟨(c :: s).toArray⟩ : ByteArray).toList == ([] : List UInt8)) = false := by rw [ByteArray.toList_eq]; rfl
    generalize (⟨(c :: s).toArray⟩ : ByteArray) = S at *
    go_enter Tryd.func71, Tryd.ntmps71
    go_wp2
    go_ret
    exact ⟨rfl, rfl⟩

def vis28 (l : List UInt8) : Bool := seen28 l && !l.isEmpty
set_option maxHeartbeats 4000000 in
theorem refVisible_any (s : ByteArray) (w : World) (hs : s.size ≤ 1000000000) :
    Calls Tryd.prog 69 #[.string s] w fun e w' => e = .returned (.bool (vis28 s.data.toList)) ∧ w = w' := by
  go_enter Tryd.func69, Tryd.ntmps69
  go_wp2
  go_loop [3] (fun i => ∃ k : Nat, k ≤ s.size ∧ i = .int .i64 k ∧ seen28 (s.data.toList.take k) = true) (fun i => s.size - (intOf i).toNat)
  case atStart => exact ⟨0, by omega, rfl, rfl⟩
  case round =>
    obtain ⟨k, hk, rfl, hall⟩ := hrel
    by_cases hlt : k < s.size
    · obtain ⟨c, hc⟩ : ∃ c, s[k] = c := ⟨_, rfl⟩
      have hg : s.data.toList[k]? = some c := by rw [get_data s k hlt, hc]
      have hsn := seen28_snoc _ k c hg
      rw [hall, Bool.true_and] at hsn
      have hno := seen28_not _ k c hg
      have Hno := Lib.hid hno; clear hno hg hall
      have hc255 : c.toNat ≤ 255 := by have := c.toNat_lt; omega
      by_cases h1 : c.toNat < 33
      · have hx : seeOne c = false := by simp [seeOne]; omega
        have Hx := Lib.hid hx; clear hx hsn
        go_wp2
        go_ret
        exact ⟨ret_bool (by unfold vis28; rw [Hno.out Hx.out]; rfl), rfl⟩
      · by_cases h2 : 126 < c.toNat
        · have hx : seeOne c = false := by simp [seeOne]; omega
          have Hx := Lib.hid hx; clear hx hsn
          go_wp2
          go_ret
          exact ⟨ret_bool (by unfold vis28; rw [Hno.out Hx.out]; rfl), rfl⟩
        · have hx : seeOne c = true := by simp [seeOne]; omega
          rw [hx] at hsn
          have Hsn := Lib.hid hsn; clear hsn hx
          go_wp2
          go_round
          case rel => exact ⟨k + 1, by omega, by go_num, Hsn.out⟩
          case measure => simp [intOf]; omega
    · obtain rfl : k = s.size := by omega
      rw [List.take_of_length_le (by rw [data_len]; omega)] at hall
      have he : vis28 s.data.toList = decide (0 < s.size) := by
        have hl := data_len s
        unfold vis28
        rw [hall]
        cases h : s.data.toList with
        | nil => rw [h] at hl; simp only [List.length_nil] at hl; rw [← hl]; rfl
        | cons c l => rw [h] at hl; simp only [List.length_cons] at hl; rw [← hl]; simp
      have Hall := Lib.hid hall; clear hall
      have He := Lib.hid he; clear he
      go_wp2
      go_ret
      exact ⟨ret_bool He.out.symm, rfl⟩
end Go.Proofs.YtaddefjkjlkjnaaDoor
