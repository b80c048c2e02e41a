/- Walks of layer 2's document: names, digits. Condition: numbers within the calendar's bounds. -/
import Derived.Test.YtpmidmdodjgeeaaDoorRefA
import Derived.Test.YtpmidmdodjgeeaaDoorDat2
namespace Go.Proofs.YtpmidmdodjgeeaaDoor
open Go.RowKit IH
set_option maxRecDepth 100000

set_option maxHeartbeats 1000000 in
theorem refDay_any (i : Int) (h0 : 0 ≤ i) (h1 : i < 7) (w : World) :
    Calls Tryd.prog 61 #[.int .i64 i] w fun e w' => e = .returned (.string ⟨(dayN ((i + 3) % 7)).toArray⟩) ∧ Below w.heap.size w w' := by
  have hq : i = 0 ∨ i = 1 ∨ i = 2 ∨ i = 3 ∨ i = 4 ∨ i = 5 ∨ i = 6 := by omega
  rcases hq with rfl | rfl | rfl | rfl | rfl | rfl | rfl
  all_goals
    go_enter Tryd.func61, Tryd.ntmps61
    go_wp2
    go_ret
    exact ⟨rfl, (Below.refl _ _).alloc (Nat.le_refl _) _⟩
set_option maxHeartbeats 1000000 in
theorem refMonth_any (m : Int) (h0 : 0 ≤ m) (h1 : m ≤ 11) (w : World) :
    Calls Tryd.prog 65 #[.int .i64 m] w fun e w' => e = .returned (.string ⟨(monN (m + 1)).toArray⟩) ∧ Below w.heap.size w w' := by
  have hq : m = 0 ∨ m = 1 ∨ m = 2 ∨ m = 3 ∨ m = 4 ∨ m = 5 ∨ m = 6 ∨ m = 7 ∨ m = 8 ∨ m = 9 ∨ m = 10 ∨ m = 11 := by omega
  rcases hq with rfl | rfl | rfl | rfl | rfl | rfl | rfl | rfl | rfl | rfl | rfl | rfl
  all_goals
    go_enter Tryd.func65, Tryd.ntmps65
    go_wp2
    go_ret
    exact ⟨rfl, (Below.refl _ _).alloc (Nat.le_refl _) _⟩

/-- The last digits of a number, so many. -/
def lastD : Nat → Int → List UInt8
  | 0, _ => []
  | k + 1, n => dg (n / 10 ^ k) :: lastD k n
theorem lastD_len (k : Nat) (n : Int) : (lastD k n).length = k := by
  induction k with
  | zero => rfl
  | succ k ih => simp [lastD, ih]
theorem dg_byte (n : Int) : ((dg n).toNat : Int) = 48 + n % 10 := by have := dg_val n; omega
theorem run_one_str (W : World) (v : Value) (c : UInt8) (h : v = byteV c) :
    (convert 22 9 (.slice (some ⟨W.heap.size, 0, none⟩) 1 1)).run Tryd.prog (W.alloc (.cells #[v] 5)) = .ok (.string ⟨#[c]⟩) (W.alloc (.cells #[v] 5)) := by
  subst h
  have h1 := (RowAt.new W 5 (bytesV [c])).slice (size := 1) (n := 1) (c := 1) (by rfl) (Nat.le_refl _) (by simp [maxLen])
  exact run_string_of (P := Tryd.prog) h1 22 9 5 Tryd.underlying22 Tryd.underlying5 Tryd.underlying9
theorem dg_cell (q : Int) : Value.int .u8 (48 + q % 10) = byteV (dg q) := by unfold byteV; rw [dg_byte]
set_option maxHeartbeats 2000000 in
theorem dig_pad (n : Int) (sz : Nat) (h0 : 0 ≤ n) (h1 : n < 1000000) (hz : sz ≤ 4) (w : World) :
    Calls Tryd.prog 64 #[.int .i64 n, .int .i64 sz] w fun e w' => e = .returned (.string ⟨(lastD sz n).toArray⟩) ∧ Below w.heap.size w w' := by
  go_enter Tryd.func64, Tryd.ntmps64
  go_wp2
  go_loopw [0, 5, 6] (fun a s i wr => ∃ (k : Nat), k ≤ sz ∧ a = .int .i64 (n / 10 ^ k) ∧ s = .string ⟨(lastD k n).toArray⟩ ∧ i = .int .i64 k ∧ Below w.heap.size w wr) (fun _ _ i _ => sz - (intOf i).toNat)
  case atStart => exact ⟨0, by omega, by simp, rfl, rfl, Below.refl _ _⟩
  case round =>
    obtain ⟨k, hk, rfl, rfl, rfl, hbel⟩ := hrel
    obtain ⟨q, hq⟩ : ∃ q, n / 10 ^ k = q := ⟨_, rfl⟩
    have hq0 : 0 ≤ q := by rw [← hq]; exact Int.ediv_nonneg h0 (Int.pow_nonneg (by omega))
    have hq1 : q < 1000000 := by
      have := Int.ediv_le_self (10 ^ k) h0
      omega
    have hnx : n / 10 ^ (k + 1) = q / 10 := by rw [Int.pow_succ, ← hq, Int.ediv_ediv_of_nonneg (Int.le_of_lt (Int.pow_pos (by omega)))]
    have hls : lastD (k + 1) n = dg q :: lastD k n := by simp only [lastD, hq]
    have hll := lastD_len k n
    obtain ⟨X, hX⟩ : ∃ X : ByteArray, (⟨(lastD k n).toArray⟩ : ByteArray) = X := ⟨_, rfl⟩
    have hXs : X.size ≤ 4 := by rw [← hX, size_mk]; omega
    rw [hq, hX]
    have Hnx := Lib.hid hnx
    have Hls := Lib.hid hls
    have HX := Lib.hid hX
    clear hq hnx hls hX hll
    by_cases hlt : k < sz
    · have hcs := fun W => run_one_str W (.int .u8 (48 + q % 10)) (dg q) (dg_cell q)
      go_wp2
      go_roundw
      case rel =>
        refine ⟨k + 1, by omega, ?_, ?_, by go_num, hbel.alloc hbel.size _⟩
        · rw [Hnx.out]
        · rw [Hls.out, ← HX.out]
          congr 1
      case measure => simp [intOf]; omega
    · obtain rfl : k = sz := by omega
      go_wp2
      go_ret
      exact ⟨ret_str HX.out.symm, hbel⟩
theorem lastD2 (n : Int) : lastD 2 n = d2 n := by simp [lastD, d2]
theorem lastD4 (n : Int) : lastD 4 n = d4 n := by simp [lastD, d4]
theorem dig2_any (n : Int) (h0 : 0 ≤ n) (h1 : n < 1000000) (w : World) :
    Calls Tryd.prog 64 #[.int .i64 n, .int .i64 2] w fun e w' => e = .returned (.string ⟨(d2 n).toArray⟩) ∧ Below w.heap.size w w' := by
  have h := dig_pad n 2 h0 h1 (by omega) w
  rw [lastD2] at h
  exact h
theorem dig4_any (n : Int) (h0 : 0 ≤ n) (h1 : n < 1000000) (w : World) :
    Calls Tryd.prog 64 #[.int .i64 n, .int .i64 4] w fun e w' => e = .returned (.string ⟨(d4 n).toArray⟩) ∧ Below w.heap.size w w' := by
  have h := dig_pad n 4 h0 h1 (by omega) w
  rw [lastD4] at h
  exact h
end Go.Proofs.YtpmidmdodjgeeaaDoor
