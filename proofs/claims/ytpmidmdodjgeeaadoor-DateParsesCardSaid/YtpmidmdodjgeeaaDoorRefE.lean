/- Walk of layer 2's document: a month by its name. Condition: places within bounds. -/
import Derived.Test.YtpmidmdodjgeeaaDoorRefD
import Derived.IntWalk
namespace Go.Proofs.YtpmidmdodjgeeaaDoor
open Go.RowKit IH
set_option maxRecDepth 100000
theorem refFind_none {l : List UInt8} {a : Nat} (h : ∀ k : Nat, k < 12 → monN ((k : Int) + 1) ≠ (l.drop a).take 3) : refFind l a = -1 := by
  unfold refFind monOf
  have : (List.range 12).find? (fun k : Nat => decide (monN ((k : Int) + 1) = (l.drop a).take 3)) = none := by
    rw [List.find?_eq_none]
    intro k hk
    simpa using h k (List.mem_range.1 hk)
  rw [this]; rfl
theorem refFind_hit {l : List UInt8} {a k : Nat} (hk : k < 12) (h : monN ((k : Int) + 1) = (l.drop a).take 3) : refFind l a = k := by
  unfold refFind
  rw [← h, monOf_monN _ (by omega) (by omega)]
  omega

set_option maxHeartbeats 4000000 in
theorem refFind_any (s : ByteArray) (a : Nat) (ha : a ≤ 1000) (w : World) :
    Calls Tryd.prog 60 #[.string s, .int .i64 a] w fun e w' => e = .returned (.int .i64 (refFind s.data.toList a)) ∧ Below w.heap.size w w' := by
  have hXd : (s.extract a (a + 3)).data.toList = (s.data.toList.drop a).take 3 := by
    rw [Lib.extract_data]
    simp [List.take_drop]
  have a0 : (0 : Int) ≤ (a : Int) := by omega
  have a0b : decide ((0 : Int) ≤ (a : Int)) = true := decide_eq_true a0
  go_enter Tryd.func60, Tryd.ntmps60
  go_wp2
  go_loopw [5] (fun i wr => ∃ k : Nat, k ≤ 12 ∧ i = .int .i64 (k : Int) ∧ (∀ j : Nat, j < k → monN ((j : Int) + 1) ≠ (s.data.toList.drop a).take 3) ∧ Below w.heap.size w wr) (fun i _ => 12 - (intOf i).toNat)
  case atStart => exact ⟨0, by omega, rfl, fun j hj => by omega, Below.refl _ _⟩
  case round =>
    obtain ⟨k, hk, rfl, hno, hbel⟩ := hrel
    have HB := Lib.hid hbel
    have HNO := Lib.hid hno
    clear hbel hno
    by_cases hlt : k < 12
    · have MO := refMonth_any (k : Int) (by omega) (by omega)
      by_cases hin : a + 3 ≤ s.size
      · have hib : decide ((a : Int) + 3 ≤ (s.size : Int)) = true := decide_eq_true (by omega)
        obtain ⟨N, hN⟩ : ∃ N : ByteArray, (⟨(monN ((k : Int) + 1)).toArray⟩ : ByteArray) = N := ⟨_, rfl⟩
        have hNd : N.data.toList = monN ((k : Int) + 1) := by rw [← hN]
        rw [hN] at MO
        replace MO := Lib.hid MO
        have i1 : (a : Int) + 3 ≤ (s.size : Int) := by omega
        have i2 : (a : Int) ≤ (a : Int) + 3 := by omega
        have i3 : (0 : Int) ≤ (a : Int) + 3 := by omega
        have it : ((a : Int) + 3).toNat = a + 3 := by omega
        have iw : IntKind.i64.wrap ((a : Int) + 3) = (a : Int) + 3 := IntWalk.i64_in _ ⟨by omega, by omega⟩
        by_cases heq : monN ((k : Int) + 1) = (s.data.toList.drop a).take 3
        · have hb : ((s.extract a (a + 3)).toList == N.toList) = true := by rw [ByteArray.toList_eq, ByteArray.toList_eq, hXd, hNd, heq]; simp
          have hfin := refFind_hit hlt heq
          have HF := Lib.hid hfin
          have HQ := Lib.hid hb
          clear hfin hb heq hNd hN hXd
          go_upto_region 4 with fail
          have hb := HQ.out
          refine wp_region_plan (fun w' => Below w.heap.size w w') [(0, true), (1, true), (2, true), (3, true), (4, true), (5, true), (6, true), (7, true), (8, true), (9, true), (10, true), (11, true), (12, true), (13, true), (14, true), (15, true), (16, false), (17, true), (18, true)] (by kernel_rfl) (by kernel_rfl) rfl (by kernel_rfl) (below_drewN HB.out 1) ?_
          intro w1 hH
          iterate 16
            refine plan_take (v := ?_) rfl (by rfl) ?_ ?_
            rotate_left
            · intro w2 hSw
              clear hSw
              go_simp
              try with_reducible rfl
            try simp only [Act.put, List.setIfInBounds_toArray, List.set_cons_zero, List.set_cons_succ]
          refine plan_move rfl (by rfl) (fun K hK => ?_)
          go_simp
          (with_reducible refine (MO.out _).mono ?_)
          rintro e w7 ⟨rfl, hb2⟩
          refine hK.out _ _ (below_step hH.out hb2) ?_
          clear hH hK hb2 K
          intro hH
          try simp only [Act.put, List.setIfInBounds_toArray, List.set_cons_zero, List.set_cons_succ]
          iterate 2
            refine plan_take (v := ?_) rfl (by rfl) ?_ ?_
            rotate_left
            · intro w2 hSw
              clear hSw
              go_simp
              try with_reducible rfl
            try simp only [Act.put, List.setIfInBounds_toArray, List.set_cons_zero, List.set_cons_succ]
          refine plan_done ?_
          have hbel := hH.out
          go_wp2
          go_ret
          rw [HF.out]
          exact ⟨rfl, hbel⟩
        · have hb : ((s.extract a (a + 3)).toList == N.toList) = false := by rw [ByteArray.toList_eq, ByteArray.toList_eq, hXd, hNd]; simpa using fun h => heq h.symm
          have HNE := Lib.hid heq
          have HQ := Lib.hid hb
          clear hb heq hNd hN hXd
          go_upto_region 4 with fail
          have hb := HQ.out
          refine wp_region_plan (fun w' => Below w.heap.size w w') [(0, true), (1, true), (2, true), (3, true), (4, true), (5, true), (6, true), (7, true), (8, true), (9, true), (10, true), (11, true), (12, true), (13, true), (14, true), (15, true), (16, false), (17, true), (18, true)] (by kernel_rfl) (by kernel_rfl) rfl (by kernel_rfl) (below_drewN HB.out 1) ?_
          intro w1 hH
          iterate 16
            refine plan_take (v := ?_) rfl (by rfl) ?_ ?_
            rotate_left
            · intro w2 hSw
              clear hSw
              go_simp
              try with_reducible rfl
            try simp only [Act.put, List.setIfInBounds_toArray, List.set_cons_zero, List.set_cons_succ]
          refine plan_move rfl (by rfl) (fun K hK => ?_)
          go_simp
          (with_reducible refine (MO.out _).mono ?_)
          rintro e w7 ⟨rfl, hb2⟩
          refine hK.out _ _ (below_step hH.out hb2) ?_
          clear hH hK hb2 K
          intro hH
          try simp only [Act.put, List.setIfInBounds_toArray, List.set_cons_zero, List.set_cons_succ]
          iterate 2
            refine plan_take (v := ?_) rfl (by rfl) ?_ ?_
            rotate_left
            · intro w2 hSw
              clear hSw
              go_simp
              try with_reducible rfl
            try simp only [Act.put, List.setIfInBounds_toArray, List.set_cons_zero, List.set_cons_succ]
          refine plan_done ?_
          have hbel := hH.out
          go_wp2
          go_roundw
          case rel => exact ⟨k + 1, by omega, by go_num, fun j hj => by
            rcases Nat.lt_or_ge j k with h | h
            · exact HNO.out j h
            · obtain rfl : j = k := by omega
              exact HNE.out, hbel⟩
          case measure => simp [intOf]; omega
      · have hib : decide ((a : Int) + 3 ≤ (s.size : Int)) = false := decide_eq_false (by omega)
        have iw : IntKind.i64.wrap ((a : Int) + 3) = (a : Int) + 3 := IntWalk.i64_in _ ⟨by omega, by omega⟩
        have hne : monN ((k : Int) + 1) ≠ (s.data.toList.drop a).take 3 := by
          intro h
          obtain ⟨p, q, t, e⟩ := monN_three ((k : Int) + 1) (by omega) (by omega)
          have := congrArg List.length h
          rw [e, List.length_take, List.length_drop, data_len] at this
          simp at this
          omega
        have HNE := Lib.hid hne
        clear hne hXd MO
        go_upto_region 4 with fail
        refine wp_region_plan (fun w' => Below w.heap.size w w') [(0, true), (1, true), (2, true), (3, true), (4, true), (5, true), (6, true), (7, true), (8, true), (9, true), (10, true), (11, true), (12, true), (13, true), (14, true), (15, true), (16, false), (17, true), (18, true)] (by kernel_rfl) (by kernel_rfl) rfl (by kernel_rfl) (below_drewN HB.out 1) ?_
        intro w1 hH
        iterate 10
          refine plan_take (v := ?_) rfl (by rfl) ?_ ?_
          rotate_left
          · intro w2 hSw
            clear hSw
            go_simp
            try with_reducible rfl
          try simp only [Act.put, List.setIfInBounds_toArray, List.set_cons_zero, List.set_cons_succ]
        iterate 6
          refine plan_skip rfl (by rfl) ?_
          try simp only [Act.put, List.setIfInBounds_toArray, List.set_cons_zero, List.set_cons_succ]
        refine plan_skipM rfl (by rfl) hH.out ?_
        try simp only [Act.put, List.setIfInBounds_toArray, List.set_cons_zero, List.set_cons_succ]
        iterate 1
          refine plan_skip rfl (by rfl) ?_
          try simp only [Act.put, List.setIfInBounds_toArray, List.set_cons_zero, List.set_cons_succ]
        iterate 1
          refine plan_take (v := ?_) rfl (by rfl) ?_ ?_
          rotate_left
          · intro w2 hSw
            clear hSw
            go_simp
            try with_reducible rfl
          try simp only [Act.put, List.setIfInBounds_toArray, List.set_cons_zero, List.set_cons_succ]
        refine plan_done ?_
        have hbel := hH.out
        go_wp2
        go_roundw
        case rel => exact ⟨k + 1, by omega, by go_num, fun j hj => by
          rcases Nat.lt_or_ge j k with h | h
          · exact HNO.out j h
          · obtain rfl : j = k := by omega
            exact HNE.out, hbel⟩
        case measure => simp [intOf]; omega
    · obtain rfl : k = 12 := by omega
      have hfin := refFind_none HNO.out
      have HF := Lib.hid hfin
      clear hfin
      go_wp2
      go_ret
      rw [HF.out]
      exact ⟨rfl, HB.out⟩
end Go.Proofs.YtpmidmdodjgeeaaDoor
