/- Layer 1's laws: the document's examples hold. No condition. -/
import Derived.Test.YtclgkkencpkjpaaGreatDoorOct5
import Derived.Test.YtclgkkencpkjpaaGreatDoorOct8
import Derived.Test.YtclgkkencpkjpaaGreatDoorOct11
namespace Go.Proofs.YtclgkkencpkjpaaGreatDoor
open Go.RowKit IH
set_option maxRecDepth 100000

theorem aw_split : splitL [[97, 44, 32, 34, 98, 44, 99, 34, 32, 44], [100]] = [[97], [34, 98, 44, 99, 34], [100]] := by decide +kernel
theorem aw_num : numR 10 99 [48, 48, 49, 48] = (10, 0) := by decide +kernel
theorem aw_unq : unquote [34, 97, 92, 34, 98, 34, 99] = ([97, 34, 98], 6, 0) := by decide +kernel
theorem sameL_self (L : List (List UInt8)) : sameL L L = true := by simp [sameL]

theorem aw_c1 (w : World) : Calls Tryz.prog 56 #[.string ⟨#[48, 48, 49, 48]⟩, .int .i64 99] w fun e w' => e = .returned (.tuple #[.int .i64 10, .int .i64 0]) ∧ Below w.heap.size w w' := by
  have h := Number_any ⟨#[48, 48, 49, 48]⟩ (by decide) 99 (by omega) (by omega) w
  have e1 : (⟨#[48, 48, 49, 48]⟩ : ByteArray).data.toList = [48, 48, 49, 48] := rfl
  rw [e1, aw_num] at h
  exact h
theorem aw_c2 (w : World) : Calls Tryz.prog 16 #[.string ⟨#[34, 97, 92, 34, 98, 34, 99]⟩] w fun e w' => e = .returned (.tuple #[.string ⟨#[97, 34, 98]⟩, .int .i64 6, .int .i64 0]) ∧ Below w.heap.size w w' := by
  have h := Unquote_any ⟨#[34, 97, 92, 34, 98, 34, 99]⟩ (by decide) w
  have e1 : (⟨#[34, 97, 92, 34, 98, 34, 99]⟩ : ByteArray).data.toList = [34, 97, 92, 34, 98, 34, 99] := rfl
  rw [e1, aw_unq] at h
  exact h

set_option maxHeartbeats 2000000 in
theorem awake01_any (w : World) : Calls Tryz.prog 13 #[] w fun e w' => e = .returned (.bool true) ∧ Below w.heap.size w w' := by
  go_enter Tryz.func13, Tryz.ntmps13
  go_wp2_with fail
  have hb0 : Below w.heap.size w (w.alloc (.cells (strsV [[97, 44, 32, 34, 98, 44, 99, 34, 32, 44], [100]]).toArray 9)) := (Below.refl _ _).alloc (Nat.le_refl _) _
  have hsl := (RowAt.new w 9 (strsV [[97, 44, 32, 34, 98, 44, 99, 34, 32, 44], [100]])).slice (size := 1) (n := 2) (c := 2) rfl (Nat.le_refl _) (by simp [maxLen])
  refine (Split_any _ _ _ _ _ hsl (by decide +kernel)).mono ?_
  rw [aw_split]
  rintro e w1 ⟨v, rfl, hown, hb1⟩
  have hb01 : Below w.heap.size w w1 := hb0.trans (hb1.mono (by simp))
  obtain ⟨A, c, rfl, hin⟩ := own_slice hown
  clear hown hsl hb0 hb1
  go_wp2_with (first
    | (go_at_call 56; refine (aw_c1 _).mono ?_; rintro e w2 ⟨rfl, hb2⟩)
    | (go_at_call 16; refine (aw_c2 _).mono ?_; rintro e w3 ⟨rfl, hb3⟩))
  have hb13 : Below w1.heap.size w1 w3 := hb2.trans (hb3.mono hb2.size)
  have hin3 := (hin.below hb13).alloc hb13.size (.cells (strsV [[97], [34, 98, 44, 99, 34], [100]]).toArray 9)
  have hb03 : Below w.heap.size w w3 := hb01.trans (hb13.mono hb01.size)
  have hsl := (RowAt.new w3 9 (strsV [[97], [34, 98, 44, 99, 34], [100]])).slice (size := 1) (n := 3) (c := 3) rfl (Nat.le_refl _) (by simp [maxLen])
  have hb04 : Below w.heap.size w (w3.alloc (.cells (strsV [[97], [34, 98, 44, 99, 34], [100]]).toArray 9)) := hb03.alloc hb03.size _
  clear hb13 hin hb2 hb3 hb03 hb01
  have S := Lib.hid (Same_any _ _ _ _ _ _ _ _ _ _ _ hin3 hsl)
  rw [sameL_self] at S
  clear hin3 hsl
  go_wp2_with (go_at_call 19; refine S.out.mono ?_; rintro e w4 ⟨rfl, nq, rfl⟩)
  go_ret
  exact ⟨rfl, below_drewN hb04 _⟩
end Go.Proofs.YtclgkkencpkjpaaGreatDoor
