/- Layer 2's laws: DatePrints, walked. Condition: the world's shape. (Printed by tools/mklaw02c.py.) -/
import Derived.Test.YtpmidmdodjgeeaaDoorLaw02a
import Derived.Test.YtpmidmdodjgeeaaDoorRefC
namespace Go.Proofs.YtpmidmdodjgeeaaDoor
open Go.RowKit IH
set_option maxRecDepth 100000
theorem arr3_eq (w : World) : (binOp .eql 64 (.agg #[.string ⟨#[]⟩, .string ⟨#[]⟩, .string ⟨#[]⟩]) (.agg #[.string ⟨#[]⟩, .string ⟨#[]⟩, .string ⟨#[]⟩])).run Tryd.prog w = .ok (.bool true) w := by kernel_rfl
theorem parse_at {mt y m d k : Int} (hM : Moment mt y m d) (hk : k = 0 ∨ (k = 1 ∧ y ≤ 2069) ∨ k = 2) (w : World) (hsh : w.ShapedOpen Tryd.prog) :
    Calls Tryd.prog 31 #[.string ⟨(formOf k mt y m d).toArray⟩] w fun e w' => e = .returned (.tuple #[.int .i64 mt, .int .i64 0]) ∧ Below w.heap.size w w' := by
  have hl := form_len hM
  have h := Parse_any ⟨(formOf k mt y m d).toArray⟩ (by rw [size_mk]; rcases hk with rfl | ⟨rfl, _⟩ | rfl <;> omega) w hsh
  have e1 : (⟨(formOf k mt y m d).toArray⟩ : ByteArray).data.toList = formOf k mt y m d := rfl
  rw [e1, parse_form hM hk] at h
  exact h
def str3 (a b c : ByteArray) : List Value := [.string a, .string b, .string c]
theorem str3_cells {w : World} {g : Nat} {e : TypeId} {a b c : ByteArray} (h : RowAt w g e (str3 a b c)) : w.cell? ⟨g, 0, none⟩ = some (.string a) ∧ w.cell? ⟨g, 1, none⟩ = some (.string b) ∧ w.cell? ⟨g, 2, none⟩ = some (.string c) :=
  ⟨h.cell (j := 0) rfl, h.cell (j := 1) rfl, h.cell (j := 2) rfl⟩

set_option maxHeartbeats 8000000 in
theorem prints_walk (w : World) (hsh : w.ShapedOpen Tryd.prog) (n : Int) (_hn : (Lit.int .i64 n).wf = true) :
    Calls Tryd.prog 11 #[.int .i64 n] w fun e w' => e = .returned (.bool true) ∧ Below w.heap.size w w' := by
  have AW := Lib.hid (awake02_any w hsh)
  have Hsh := Lib.hid hsh
  clear hsh
  have aq := arr3_eq
  by_cases hr : n < 0 ∨ 253402300799 < n
  · have PN := Lib.hid (Print_no n hr)
    have FN := Lib.hid (Forms_no n hr)
    rcases hr with hr | hr
    all_goals
      go_enter Tryd.func11, Tryd.ntmps11
      go_wp2_with (first
        | (go_at_call 30; refine AW.out.mono ?_; rintro e w2 ⟨rfl, hb2⟩; have B2 := Lib.hid hb2; clear hb2)
        | (go_at_call 34; (with_reducible refine (PN.out _).mono ?_); rintro e w5 ⟨rfl, rfl⟩)
        | (go_at_call 36; (with_reducible refine (FN.out _).mono ?_); rintro e w3 ⟨rfl, hb3⟩; have B3 := Lib.hid (below_step B2.out hb3); clear hb3)
        | (go_at_call 33; (with_reducible refine (refLast_any _).mono ?_); rintro e w5 ⟨rfl, rfl⟩))
      go_ret
      exact ⟨rfl, B3.out.alloc B3.out.size _⟩
  · have a0 : 0 ≤ n := by omega
    have a1 : n ≤ 253402300799 := by omega
    obtain ⟨y, m, d, hM⟩ := moment_ex n a0 a1
    have PM := Print_at hM
    have PA0 := fun w hsh => parse_at hM (.inl rfl) w hsh
    have R0 := refForm0 hM
    have R1 := refForm1 hM
    have R2 := refForm2 hM
    have WM := refWhen_any hM
    generalize m - 1 = q at *
    generalize (n / 86400 + 4) % 7 = k1 at *
    clear hr
    by_cases hy : 2069 < y
    · have FL := Lib.hid (Forms_late hM hy)
      generalize (⟨(formOf 0 n y m d).toArray⟩ : ByteArray) = F0 at *
      replace PM := Lib.hid PM
      replace PA0 := Lib.hid PA0
      replace R0 := Lib.hid R0
      replace WM := Lib.hid WM
      clear hM R1 R2
      go_enter Tryd.func11, Tryd.ntmps11
      go_wp2_with (first
        | (go_at_call 30; refine AW.out.mono ?_; rintro e w2 ⟨rfl, hb2⟩; have B2 := Lib.hid hb2; clear hb2)
        | (go_at_call 34; (with_reducible refine (PM.out _).mono ?_); rintro e w3 ⟨rfl, hb3⟩; have B3 := Lib.hid (below_step B2.out hb3); clear hb3)
        | (go_at_call 36; (with_reducible refine (FL.out _).mono ?_); rintro e w4 ⟨rfl, hb4⟩; have hb4' := below_step B3.out hb4; have B4 := Lib.hid (hb4'.alloc hb4'.size (.cells #[.string ⟨#[]⟩, .string ⟨#[]⟩, .string ⟨#[]⟩] 64)); have ROW4 := Lib.hid (RowAt.new w4 64 (str3 ⟨#[]⟩ ⟨#[]⟩ ⟨#[]⟩)); clear hb4 hb4')
        | (go_at_call 33; (with_reducible refine (refLast_any _).mono ?_); rintro e w5 ⟨rfl, rfl⟩)
        | (go_at_call 31; refine (PA0.out _ (shaped_below Hsh.out B4.out)).mono ?_; rintro e w6 ⟨rfl, hb6⟩; have B6 := Lib.hid (below_step B4.out hb6); have ROW6 := Lib.hid (ROW4.out.below hb6 ROW4.out.lt); clear hb6)
        | (go_at_call 37; (with_reducible refine (R0.out _).mono ?_); rintro e w7 ⟨rfl, hb7⟩; have B7 := Lib.hid (below_step B6.out hb7); have ROW7 := Lib.hid (ROW6.out.below hb7 ROW6.out.lt); clear hb7)
        | (go_at_call 35; (with_reducible refine (WM.out _).mono ?_); rintro e w8 ⟨rfl, hb8⟩; have B8 := Lib.hid (below_step B7.out hb8); obtain ⟨c0, c1, c2⟩ := str3_cells (ROW7.out.below hb8 ROW7.out.lt); clear hb8))
      go_ret
      exact ⟨rfl, B8.out⟩
    · have hy' : y ≤ 2069 := by omega
      have FO := Forms_at hM hy'
      have PA1 := fun w hsh => parse_at hM (.inr (.inl ⟨rfl, hy'⟩)) w hsh
      have PA2 := fun w hsh => parse_at hM (.inr (.inr rfl)) w hsh
      generalize (⟨(formOf 0 n y m d).toArray⟩ : ByteArray) = F0 at *
      generalize (⟨(formOf 1 n y m d).toArray⟩ : ByteArray) = F1 at *
      generalize (⟨(formOf 2 n y m d).toArray⟩ : ByteArray) = F2 at *
      replace PM := Lib.hid PM
      replace PA0 := Lib.hid PA0
      replace PA1 := Lib.hid PA1
      replace PA2 := Lib.hid PA2
      replace FO := Lib.hid FO
      replace R0 := Lib.hid R0
      replace R1 := Lib.hid R1
      replace R2 := Lib.hid R2
      replace WM := Lib.hid WM
      clear hM hy
      go_enter Tryd.func11, Tryd.ntmps11
      go_wp2_with (first
        | (go_at_call 30; refine AW.out.mono ?_; rintro e w2 ⟨rfl, hb2⟩; have B2 := Lib.hid hb2; clear hb2)
        | (go_at_call 34; (with_reducible refine (PM.out _).mono ?_); rintro e w3 ⟨rfl, hb3⟩; have B3 := Lib.hid (below_step B2.out hb3); clear hb3)
        | (go_at_call 36; (with_reducible refine (FO.out _).mono ?_); rintro e w4 ⟨rfl, hb4⟩; have hb4' := below_step B3.out hb4; have B4 := Lib.hid (hb4'.alloc hb4'.size (.cells #[.string F0, .string F1, .string F2] 64)); have ROW4 := Lib.hid (RowAt.new w4 64 (str3 F0 F1 F2)); clear hb4 hb4')
        | (go_at_call 33; (with_reducible refine (refLast_any _).mono ?_); rintro e w5 ⟨rfl, rfl⟩)
        | (go_at_call 31; refine (PA0.out _ (shaped_below Hsh.out B4.out)).mono ?_; rintro e w6 ⟨rfl, hb6⟩; have B6 := Lib.hid (below_step B4.out hb6); have ROW6 := Lib.hid (ROW4.out.below hb6 ROW4.out.lt); clear hb6)
        | (go_at_call 37; (with_reducible refine (R0.out _).mono ?_); rintro e w7 ⟨rfl, hb7⟩; have B7 := Lib.hid (below_step B6.out hb7); have ROW7 := Lib.hid (ROW6.out.below hb7 ROW6.out.lt); clear hb7)
        | (go_at_call 35; (with_reducible refine (WM.out _).mono ?_); rintro e w8 ⟨rfl, hb8⟩; have B8 := Lib.hid (below_step B7.out hb8); have ROW8 := Lib.hid (ROW7.out.below hb8 ROW7.out.lt); clear hb8))
      generalize w4.heap.size = g at *
      go_loopw [13] (fun i wr => ∃ j : Int, (j = 0 ∨ j = 1 ∨ j = 2 ∨ j = 3) ∧ i = .int .i64 j ∧ RowAt wr g 64 (str3 F0 F1 F2) ∧ Below w.heap.size w wr) (fun i _ => (3 - intOf i).toNat)
      case atStart => exact ⟨0, .inl rfl, rfl, ROW8.out, B8.out⟩
      case round =>
        obtain ⟨j, hj, rfl, hrow, hbel⟩ := hrel
        have HROW := Lib.hid hrow
        have HB := Lib.hid hbel
        obtain ⟨c0, c1, c2⟩ := str3_cells hrow
        clear hrow hbel
        rcases hj with rfl | rfl | rfl | rfl
        · go_upto_region 17 with (go_at_call 31; refine (PA0.out _ (shaped_below Hsh.out HB.out)).mono ?_; rintro e w6 ⟨rfl, hb6⟩; have HB2 := Lib.hid (below_step HB.out hb6); have HR2 := Lib.hid (HROW.out.below hb6 HROW.out.lt); clear hb6)
          clear c0 c1 c2
          refine wp_region_plan (fun w' => RowAt w' g 64 (str3 F0 F1 F2) ∧ Below w.heap.size w w') [(0, true), (1, true), (2, true), (3, true), (4, true), (5, false), (6, true), (7, true), (8, true), (9, true), (10, true), (11, true), (12, true), (13, true), (14, true), (15, true)] (by kernel_rfl) (by kernel_rfl) rfl (by kernel_rfl) (⟨HR2.out.drewN 1, below_drewN HB2.out 1⟩) ?_
          intro w1 hH
          iterate 5
            refine plan_take (v := ?_) rfl (by rfl) ?_ ?_
            rotate_left
            · intro w2 hSw
              have hc := str3_cells hSw.1
              clear hSw
              go_simp
              try with_reducible rfl
            try simp only [Act.put, List.setIfInBounds_toArray, List.set_cons_zero, List.set_cons_succ]
          refine plan_move rfl (by rfl) (fun K hK => ?_)
          go_simp
          (with_reducible refine (R0.out _).mono ?_)
          rintro e w7 ⟨rfl, hb2⟩
          refine hK.out _ _ (⟨hH.out.1.below hb2 hH.out.1.lt, below_step hH.out.2 hb2⟩) ?_
          clear hH hK hb2 K
          intro hH
          try simp only [Act.put, List.setIfInBounds_toArray, List.set_cons_zero, List.set_cons_succ]
          iterate 10
            refine plan_take (v := ?_) rfl (by rfl) ?_ ?_
            rotate_left
            · intro w2 hSw
              have hc := str3_cells hSw.1
              clear hSw
              go_simp
              try with_reducible rfl
            try simp only [Act.put, List.setIfInBounds_toArray, List.set_cons_zero, List.set_cons_succ]
          refine plan_done ?_
          have hrow := hH.out.1
          have hbel := hH.out.2
          go_wp2
          go_roundw
          case rel => exact ⟨1, .inr (.inl rfl), rfl, hrow, hbel⟩
          case measure => simp [intOf]
        · go_upto_region 17 with (go_at_call 31; refine (PA1.out _ (shaped_below Hsh.out HB.out)).mono ?_; rintro e w6 ⟨rfl, hb6⟩; have HB2 := Lib.hid (below_step HB.out hb6); have HR2 := Lib.hid (HROW.out.below hb6 HROW.out.lt); clear hb6)
          clear c0 c1 c2
          refine wp_region_plan (fun w' => RowAt w' g 64 (str3 F0 F1 F2) ∧ Below w.heap.size w w') [(0, true), (1, true), (2, true), (3, true), (4, true), (5, false), (6, true), (7, true), (8, true), (9, true), (10, true), (11, true), (12, true), (13, true), (14, true), (15, true)] (by kernel_rfl) (by kernel_rfl) rfl (by kernel_rfl) (⟨HR2.out.drewN 1, below_drewN HB2.out 1⟩) ?_
          intro w1 hH
          iterate 5
            refine plan_take (v := ?_) rfl (by rfl) ?_ ?_
            rotate_left
            · intro w2 hSw
              have hc := str3_cells hSw.1
              clear hSw
              go_simp
              try with_reducible rfl
            try simp only [Act.put, List.setIfInBounds_toArray, List.set_cons_zero, List.set_cons_succ]
          refine plan_move rfl (by rfl) (fun K hK => ?_)
          go_simp
          (with_reducible refine (R1.out _).mono ?_)
          rintro e w7 ⟨rfl, hb2⟩
          refine hK.out _ _ (⟨hH.out.1.below hb2 hH.out.1.lt, below_step hH.out.2 hb2⟩) ?_
          clear hH hK hb2 K
          intro hH
          try simp only [Act.put, List.setIfInBounds_toArray, List.set_cons_zero, List.set_cons_succ]
          iterate 10
            refine plan_take (v := ?_) rfl (by rfl) ?_ ?_
            rotate_left
            · intro w2 hSw
              have hc := str3_cells hSw.1
              clear hSw
              go_simp
              try with_reducible rfl
            try simp only [Act.put, List.setIfInBounds_toArray, List.set_cons_zero, List.set_cons_succ]
          refine plan_done ?_
          have hrow := hH.out.1
          have hbel := hH.out.2
          go_wp2
          go_roundw
          case rel => exact ⟨2, .inr (.inr (.inl rfl)), rfl, hrow, hbel⟩
          case measure => simp [intOf]
        · go_upto_region 17 with (go_at_call 31; refine (PA2.out _ (shaped_below Hsh.out HB.out)).mono ?_; rintro e w6 ⟨rfl, hb6⟩; have HB2 := Lib.hid (below_step HB.out hb6); have HR2 := Lib.hid (HROW.out.below hb6 HROW.out.lt); clear hb6)
          clear c0 c1 c2
          refine wp_region_plan (fun w' => RowAt w' g 64 (str3 F0 F1 F2) ∧ Below w.heap.size w w') [(0, true), (1, true), (2, true), (3, true), (4, true), (5, false), (6, true), (7, true), (8, true), (9, true), (10, true), (11, true), (12, true), (13, true), (14, true), (15, true)] (by kernel_rfl) (by kernel_rfl) rfl (by kernel_rfl) (⟨HR2.out.drewN 1, below_drewN HB2.out 1⟩) ?_
          intro w1 hH
          iterate 5
            refine plan_take (v := ?_) rfl (by rfl) ?_ ?_
            rotate_left
            · intro w2 hSw
              have hc := str3_cells hSw.1
              clear hSw
              go_simp
              try with_reducible rfl
            try simp only [Act.put, List.setIfInBounds_toArray, List.set_cons_zero, List.set_cons_succ]
          refine plan_move rfl (by rfl) (fun K hK => ?_)
          go_simp
          (with_reducible refine (R2.out _).mono ?_)
          rintro e w7 ⟨rfl, hb2⟩
          refine hK.out _ _ (⟨hH.out.1.below hb2 hH.out.1.lt, below_step hH.out.2 hb2⟩) ?_
          clear hH hK hb2 K
          intro hH
          try simp only [Act.put, List.setIfInBounds_toArray, List.set_cons_zero, List.set_cons_succ]
          iterate 10
            refine plan_take (v := ?_) rfl (by rfl) ?_ ?_
            rotate_left
            · intro w2 hSw
              have hc := str3_cells hSw.1
              clear hSw
              go_simp
              try with_reducible rfl
            try simp only [Act.put, List.setIfInBounds_toArray, List.set_cons_zero, List.set_cons_succ]
          refine plan_done ?_
          have hrow := hH.out.1
          have hbel := hH.out.2
          go_wp2
          go_roundw
          case rel => exact ⟨3, .inr (.inr (.inr rfl)), rfl, hrow, hbel⟩
          case measure => simp [intOf]
        · go_wp2
          go_ret
          exact ⟨rfl, HB.out⟩
end Go.Proofs.YtpmidmdodjgeeaaDoor
