/- Walk of access.visible. Condition: the text takes at most 10^9 octets. -/
import Derived.Test.YtaddefjkjlkjnaaDoorAcc7
namespace Go.Proofs.YtaddefjkjlkjnaaDoor
open Go.RowKit IH
set_option maxRecDepth 100000

def seeOne (c : UInt8) : Bool := 33 ≤ c.toNat && c.toNat ≤ 126
theorem seen28_snoc (l : List UInt8) (k : Nat) (x : UInt8) (h : l[k]? = some x) : seen28 (l.take (k + 1)) = (seen28 (l.take k) && seeOne x) := by
  unfold seen28 seeOne
  rw [List.take_add_one, h]
  simp
theorem seen28_not (l : List UInt8) (k : Nat) (x : UInt8) (h : l[k]? = some x) (hx : seeOne x = false) : seen28 l = false := by
  unfold seen28
  rw [List.all_eq_false]
  exact ⟨x, List.mem_of_getElem? h, by unfold seeOne at hx; simpa using hx⟩

set_option maxHeartbeats 4000000 in
theorem visible_any (s : ByteArray) (w : World) (hs : s.size ≤ 1000000000) :
    Calls Tryd.prog 114 #[.string s] w fun e w' => e = .returned (.bool (seen28 s.data.toList)) ∧ Below w.heap.size w w' := by
  have hcv := Lib.run_convert_string_bytes (P := Tryd.prog) w 9 22 5 s Tryd.underlying9 Tryd.underlying22 Tryd.underlying5
  have hrow := RowAt.bytes w 5 s
  have hbel := below_bytesWorld w 5 s
  have hcap := Nat.le_trans (Nat.le_refl _) (grownCap_le_maxLen w s.size 0 5 (by simp only [maxLen]; omega))
  have hcap2 := grownCap_ge w s.size 0 5
  generalize Lib.bytesWorld w 5 s = W at *
  generalize grownCap w s.size 0 5 = C at *
  go_enter Tryd.func114, Tryd.ntmps114
  go_wp2
  clear hcv
  go_loopw [8] (fun i wr => ∃ k : Nat, k ≤ s.size ∧ i = .int .i64 k ∧ seen28 (s.data.toList.take k) = true ∧ wr = W) (fun i _ => s.size - (intOf i).toNat)
  case atStart => exact ⟨0, by omega, rfl, rfl, rfl⟩
  case round =>
    obtain ⟨k, hk, rfl, hall, rfl⟩ := hrel
    by_cases hlt : k < s.size
    · obtain ⟨c, hc⟩ : ∃ c, s.data.toList[k]? = some c := ⟨_, get_data s k hlt⟩
      have hcell : wr.cell? ⟨w.heap.size, k, none⟩ = some (.int .u8 c.toNat) := hrow.cell (by rw [bytesV_get, hc]; rfl)
      have hsn := seen28_snoc _ k c hc
      rw [hall, Bool.true_and] at hsn
      have hc255 : c.toNat ≤ 255 := by have := c.toNat_lt; omega
      have hno := seen28_not _ k c hc
      have Hno := Lib.hid hno; clear hno hc hall
      have Hrow := Lib.hid hrow; clear hrow
      by_cases h1 : c.toNat ≤ 32
      · clear hsn
        have hx : seeOne c = false := by simp [seeOne]; omega
        have Hx := Lib.hid hx; clear hx
        go_wp2
        go_ret
        exact ⟨by rw [Hno.out Hx.out]; rfl, hbel⟩
      · by_cases h2 : 126 < c.toNat
        · clear hsn
          have hx : seeOne c = false := by simp [seeOne]; omega
          have Hx := Lib.hid hx; clear hx
          go_wp2
          go_ret
          exact ⟨by rw [Hno.out Hx.out]; rfl, hbel⟩
        · have hx : seeOne c = true := by simp [seeOne]; omega
          rw [hx] at hsn
          have Hsn := Lib.hid hsn; clear hsn hx
          go_wp2
          go_roundw
          case rel => exact ⟨k + 1, by omega, by go_num, Hsn.out, trivial⟩
          case measure => simp [intOf]; omega
    · obtain rfl : k = s.size := by omega
      rw [List.take_of_length_le (by rw [data_len]; omega)] at hall
      have Hall := Lib.hid hall; clear hall
      go_wp2
      go_ret
      exact ⟨by rw [Hall.out]; rfl, hbel⟩
end Go.Proofs.YtaddefjkjlkjnaaDoor
