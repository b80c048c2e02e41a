/- Walks of layer 2: a date and a time put together to a moment. Condition: they are within the calendar's bounds. -/
import Derived.Test.YtpmidmdodjgeeaaDoorDat3
import Derived.IntWalk
namespace Go.Proofs.YtpmidmdodjgeeaaDoor
open Go.RowKit IH
set_option maxRecDepth 100000

set_option maxHeartbeats 2000000 in
theorem joined_any (y m d h mi s k : Int) (y0 : 1970 ≤ y) (y1 : y ≤ 9999) (m0 : 1 ≤ m) (m1 : m ≤ 12) (d0 : 1 ≤ d) (d1 : d ≤ 31) (h0 : 0 ≤ h) (h1 : h < 24) (i0 : 0 ≤ mi) (i1 : mi < 60) (s0 : 0 ≤ s) (s1 : s < 60) (w : World) :
    Calls Tryd.prog 55 #[.agg (civV y m d h mi s k).toArray] w fun e w' => e = .returned (.int .i64 (joinedAt ((y, m, d), (h, mi, s)))) ∧ Below w.heap.size w w' := by
  have A := ahead_any y (by omega) (by omega)
  have hB0 : 0 ≤ dby y := by have := dby_mono 1970 y y0; rw [dby_1970] at this; exact this
  have hB1 : dby y ≤ 2932897 := by have := dby_mono y 10000 (by omega); rw [dby_max] at this; exact this
  obtain ⟨B, hB⟩ : ∃ B, dby y = B := ⟨_, rfl⟩
  rw [hB] at A hB0 hB1
  have A := Lib.hid A
  have HB := Lib.hid hB; clear hB
  unfold civV
  go_enter Tryd.func55, Tryd.ntmps55
  go_wp2
  have hbox := RowAt.new w 83 (civV y m d h mi s k)
  unfold civV at hbox
  have hb0 : Below w.heap.size w (w.alloc (.cells #[.int .i64 y, .int .i64 m, .int .i64 d, .int .i64 h, .int .i64 mi, .int .i64 s, .int .i64 k] 83)) := (Below.refl _ _).alloc (Nat.le_refl _) _
  refine wp_region_plan (fun w' => RowAt w' w.heap.size 83 (civV y m d h mi s k) ∧ Below w.heap.size w w') [(0, true), (1, true), (3, true), (4, true), (2, false), (5, true), (6, true), (7, true)] (by kernel_rfl) (by kernel_rfl) rfl (by kernel_rfl) (⟨hbox, below_drewN hb0 1⟩) ?_
  clear hbox hb0
  have q1 : IntKind.i64.wrap (B + d) = B + d := IntWalk.i64_in _ ⟨by omega, by omega⟩
  have q2 : IntKind.i64.wrap (B + d - 1) = B + d - 1 := IntWalk.i64_in _ ⟨by omega, by omega⟩
  intro w1 hH
  iterate 4
    refine plan_take (v := ?_) rfl (by rfl) ?_ ?_
    rotate_left
    · intro w2 hSw
      have hc := civ_cells hSw.1
      clear hSw
      go_simp
      try with_reducible rfl
    try simp only [Act.put, List.setIfInBounds_toArray, List.set_cons_zero, List.set_cons_succ]
  refine plan_move rfl (by rfl) (fun K hK => ?_)
  go_simp
  refine (A.out _).mono ?_
  rintro e w2 ⟨rfl, rfl⟩
  refine hK.out _ _ (hH.out) ?_
  clear hH hK K
  intro hH
  try simp only [Act.put, List.setIfInBounds_toArray, List.set_cons_zero, List.set_cons_succ]
  iterate 3
    refine plan_take (v := ?_) rfl (by rfl) ?_ ?_
    rotate_left
    · intro w2 hSw
      have hc := civ_cells hSw.1
      clear hSw
      go_simp
      try with_reducible rfl
    try simp only [Act.put, List.setIfInBounds_toArray, List.set_cons_zero, List.set_cons_succ]
  refine plan_done ?_
  clear q1 q2
  obtain ⟨c0, c1, c2, c3, c4, c5, c6⟩ := civ_cells hH.out.1
  go_wp2
  go_loop [3, 4] (fun v i => ∃ j r : Int, v = .int .i64 r ∧ i = .int .i64 j ∧ 1 ≤ j ∧ j ≤ m ∧ r = B + d - 1 + cum y j ∧ 0 ≤ r ∧ r ≤ 2933400) (fun _ i => (m - intOf i).toNat)
  case atStart => exact ⟨1, _, rfl, rfl, by omega, by omega, by rw [cum_1]; omega, by omega, by omega⟩
  case round =>
    obtain ⟨j, r, rfl, rfl, j0, j1, hr, r0, r1⟩ := hrel
    have Hr := Lib.hid hr; clear hr
    have L := Lib.hid (length_any y j (by omega) (by omega))
    have hml := mlen_bd y j
    have hcs := cum_succ y j j0 (by omega)
    have hcb := cum_bd y (j + 1)
    have hl01 := leapN_01 y
    obtain ⟨M, hM⟩ : ∃ M, mlen y j = M := ⟨_, rfl⟩
    rw [hM] at L hml hcs
    have Hcs := Lib.hid hcs
    have hrM : r + M ≤ 2933400 := by have := Hr.out; omega
    clear hM hcs hcb hl01
    by_cases hlt : j < m
    · go_wp2_with (go_at_call 84; (with_reducible refine (L.out _).mono ?_); rintro e w' ⟨rfl, rfl⟩)
      go_round
      case rel => exact ⟨j + 1, r + M, rfl, rfl, by omega, by omega, by have := Hr.out; have := Hcs.out; omega, by omega, by omega⟩
      case measure => simp [intOf]; omega
    · obtain rfl : j = m := by omega
      have q0 : 0 ≤ r * 86400 := by omega
      have q1 : r * 86400 ≤ 253445760000 := by omega
      have hbel := hH.out.2
      go_wp2
      go_ret
      refine ⟨ret_int ?_, hbel⟩
      have := Hr.out
      have := HB.out
      simp only [joinedAt]
      omega
end Go.Proofs.YtpmidmdodjgeeaaDoor
