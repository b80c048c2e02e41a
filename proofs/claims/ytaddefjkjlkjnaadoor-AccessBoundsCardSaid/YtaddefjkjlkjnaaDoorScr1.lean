/- Walks of layer 27: an octet, as it stands between quotation marks. No condition. -/
import Derived.Test.YtaddefjkjlkjnaaDoorKt
import Derived.Test.YtaddefjkjlkjnaaDoorOct9
import Derived.Test.YtaddefjkjlkjnaaDoorPm
import Derived.IntWalk
namespace Go.Proofs.YtaddefjkjlkjnaaDoor
open Go.RowKit IH
set_option maxRecDepth 100000

set_option maxHeartbeats 2000000 in
theorem plain27_any (c : UInt8) (w : World) :
    Calls Tryd.prog 178 #[.int .u8 c.toNat] w fun e w' => e = .returned (.bool (isPlain27 c)) ∧ w = w' := by
  have hc : (c.toNat : Int) ≤ 255 := by have := c.toNat_lt; omega
  go_enter Tryd.func178, Tryd.ntmps178
  go_wp2
  all_goals
    go_ret
    refine ⟨ret_bool ?_, rfl⟩
    rw [Bool.eq_iff_iff]; simp [isPlain27]; try omega

set_option maxHeartbeats 8000000 in
theorem coded_any (c : UInt8) (w : World) :
    Calls Tryd.prog 156 #[.int .u8 c.toNat] w fun e w' => e = .returned (.string ⟨(code c).toArray⟩) ∧ Below w.heap.size w w' := by
  have hc : (c.toNat : Int) ≤ 255 := by have := c.toNat_lt; omega
  by_cases hp : isPlain27 c = true
  · have hs := run_string_of (P := Tryd.prog) ((RowAt.new w 5 (bytesV [c])).slice (size := 1) (n := 1) (c := 1) rfl (Nat.le_refl _) (by decide)) 22 9 5 Tryd.underlying22 Tryd.underlying5 Tryd.underlying9
    have hcode : code c = [c] := by unfold code; rw [if_pos hp]
    rw [hcode]
    simp only [bytesV, byteV, List.map_cons, List.map_nil] at hs
    go_enter Tryd.func156, Tryd.ntmps156
    go_wp2_with (go_at_call 178; (with_reducible refine (plain27_any c _).mono ?_); rintro e w' ⟨rfl, rfl⟩; rw [hp])
    go_ret
    exact ⟨rfl, (Below.refl _ _).alloc (Nat.le_refl _) _⟩
  · have hp' : isPlain27 c = false := by simpa using hp
    by_cases h13 : c.toNat = 13
    · have hcode : code c = [92, 114] := by unfold code; rw [hp', if_neg (by decide), if_pos h13]
      rw [hcode]
      have e1 : ((c.toNat : Int) == 13) = true := by simp; omega
      clear h13 hcode
      go_enter Tryd.func156, Tryd.ntmps156
      go_wp2_with (go_at_call 178; (with_reducible refine (plain27_any c _).mono ?_); rintro e w' ⟨rfl, rfl⟩; rw [hp'])
      go_ret
      exact ⟨rfl, Below.refl _ _⟩
    · by_cases h10 : c.toNat = 10
      · have hcode : code c = [92, 110] := by unfold code; rw [hp', if_neg (by decide), if_neg h13, if_pos h10]
        rw [hcode]
        have e1 : ((c.toNat : Int) == 13) = false := by simp; omega
        have e2 : ((c.toNat : Int) == 10) = true := by simp; omega
        clear h10 h13 hcode
        go_enter Tryd.func156, Tryd.ntmps156
        go_wp2_with (go_at_call 178; (with_reducible refine (plain27_any c _).mono ?_); rintro e w' ⟨rfl, rfl⟩; rw [hp'])
        go_ret
        exact ⟨rfl, Below.refl _ _⟩
      · by_cases hq : c.toNat = 34 ∨ c.toNat = 92
        · have hcode : code c = [92, c] := by unfold code; rw [hp', if_neg (by decide), if_neg h13, if_neg h10, if_pos hq]
          rw [hcode]
          have hs : (convert 22 9 (.slice (some ⟨w.heap.size, 0, none⟩) 2 2)).run Tryd.prog (w.alloc (.cells #[.int .u8 92, .int .u8 c.toNat] 5)) = .ok (.string ⟨#[92, c]⟩) (w.alloc (.cells #[.int .u8 92, .int .u8 c.toNat] 5)) :=
            run_string_of (P := Tryd.prog) ((RowAt.new w 5 (bytesV [92, c])).slice (size := 1) (n := 2) (c := 2) rfl (Nat.le_refl _) (by decide)) 22 9 5 Tryd.underlying22 Tryd.underlying5 Tryd.underlying9
          have e1 : ((c.toNat : Int) == 13) = false := by simp; omega
          have e2 : ((c.toNat : Int) == 10) = false := by simp; omega
          by_cases h34 : c.toNat = 34
          · have e3 : ((c.toNat : Int) == 34) = true := by simp; omega
            clear h34 hq hcode h13 h10
            go_enter Tryd.func156, Tryd.ntmps156
            go_wp2_with (go_at_call 178; (with_reducible refine (plain27_any c _).mono ?_); rintro e w' ⟨rfl, rfl⟩; rw [hp'])
            go_ret
            exact ⟨rfl, (Below.refl _ _).alloc (Nat.le_refl _) _⟩
          · have e3 : ((c.toNat : Int) == 34) = false := by simp; omega
            have e4 : ((c.toNat : Int) == 92) = true := by simp; omega
            clear h34 hq hcode h13 h10
            go_enter Tryd.func156, Tryd.ntmps156
            go_wp2_with (go_at_call 178; (with_reducible refine (plain27_any c _).mono ?_); rintro e w' ⟨rfl, rfl⟩; rw [hp'])
            go_ret
            exact ⟨rfl, (Below.refl _ _).alloc (Nat.le_refl _) _⟩
        · have e1 : ((c.toNat : Int) == 13) = false := by simp; omega
          have e2 : ((c.toNat : Int) == 10) = false := by simp; omega
          have e3 : ((c.toNat : Int) == 34) = false := by simp; omega
          have e4 : ((c.toNat : Int) == 92) = false := by simp; omega
          have hcode : code c = [92, 120, digC (c.toNat / 16), digC (c.toNat % 16)] := by unfold code; rw [hp', if_neg (by decide), if_neg h13, if_neg h10, if_neg hq]
          go_enter Tryd.func156, Tryd.ntmps156
          go_wp2_with (go_at_call 178; (with_reducible refine (plain27_any c _).mono ?_); rintro e w' ⟨rfl, rfl⟩; rw [hp'])
          go_region
          go_wp2
          go_ret
          refine ⟨?_, (Below.refl _ _).drew⟩
          rw [hcode]
          have h1 := digB_cut (c.toNat / 16) (by omega)
          have h2 := digB_cut (c.toNat % 16) (by omega)
          unfold digB at h1 h2
          rw [h1, h2]
          rfl
end Go.Proofs.YtaddefjkjlkjnaaDoor
