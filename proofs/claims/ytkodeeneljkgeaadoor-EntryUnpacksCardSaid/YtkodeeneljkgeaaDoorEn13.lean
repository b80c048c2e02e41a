/- Layer 19: entries compared, by the code and by the document. Condition: as each states. Printed by mken13.py. -/
import Derived.Test.YtkodeeneljkgeaaDoorEn11
import Derived.Test.YtkodeeneljkgeaaDoorEs
import Derived.Deep.DeepCutAuto
namespace Go.Proofs.YtkodeeneljkgeaaDoor
open Go.RowKit IH
set_option maxRecDepth 100000
set_option maxHeartbeats 16000000 in
theorem esame_raw (U_ V_ M_ T_ R_ U' V' M' T' R' : ByteArray) (A1_ A2_ A3_ A1' A2' A3' : Option Addr) (n1_ c1_ n2_ c2_ n3_ c3_ n1' c1' n2' c2' n3' c3' : Nat) (st_ mi_ as_ go_ or_ sz_ su_ st' mi' as' go' or' sz' su' : Int) (w : World) (tu tv tb tt tO tz ts tn tf tx : Bool)
    (hu : (U_.toList == U'.toList) = tu) (hv : (V_.toList == V'.toList) = tv) (hb : ∀ w, (binOp .eql 26 (.agg #[.string M_, .string T_, .int .i64 st_, .string R_, .int .i64 mi_]) (.agg #[.string M', .string T', .int .i64 st', .string R', .int .i64 mi'])).run Tryd.prog w = .ok (.bool tb) w)
    (ht : ∀ w, (binOp .eql 29 (.agg #[.int .i64 as_, .int .i64 go_]) (.agg #[.int .i64 as', .int .i64 go'])).run Tryd.prog w = .ok (.bool tt) w) (ho : (or_ == or') = tO) (hz : (sz_ == sz') = tz) (hs : (su_ == su') = ts)
    (EN : ∀ W, Below w.heap.size w W → Calls Tryd.prog 24 #[.slice A1_ n1_ c1_, .slice A1' n1' c1'] W fun e w' => e = .returned (.bool tn) ∧ ∃ q, w' = W.drewN q)
    (EF : ∀ W, Below w.heap.size w W → Calls Tryd.prog 25 #[.slice A2_ n2_ c2_, .slice A2' n2' c2'] W fun e w' => e = .returned (.bool tf) ∧ ∃ q, w' = W.drewN q)
    (EX : ∀ W, Below w.heap.size w W → Calls Tryd.prog 26 #[.slice A3_ n3_ c3_, .slice A3' n3' c3'] W fun e w' => e = .returned (.bool tx) ∧ ∃ q, w' = W.drewN q) :
    Calls Tryd.prog 11 #[.agg #[.string U_, .slice A1_ n1_ c1_, .string V_, .string M_, .string T_, .int .i64 st_, .string R_, .int .i64 mi_, .slice A2_ n2_ c2_, .int .i64 as_, .int .i64 go_, .int .i64 or_, .int .i64 sz_, .int .u32 su_, .slice A3_ n3_ c3_], .agg #[.string U', .slice A1' n1' c1', .string V', .string M', .string T', .int .i64 st', .string R', .int .i64 mi', .slice A2' n2' c2', .int .i64 as', .int .i64 go', .int .i64 or', .int .i64 sz', .int .u32 su', .slice A3' n3' c3']] w fun e w' => e = .returned (.bool ((tu && (tv && (tb && (tt && (tO && (tz && ts)))))) && (tn && (tf && tx)))) ∧ Below w.heap.size w w' := by
  obtain ⟨w2, hw2⟩ : ∃ W, (w.alloc (.cells #[.string U_, .slice A1_ n1_ c1_, .string V_, .string M_, .string T_, .int .i64 st_, .string R_, .int .i64 mi_, .slice A2_ n2_ c2_, .int .i64 as_, .int .i64 go_, .int .i64 or_, .int .i64 sz_, .int .u32 su_, .slice A3_ n3_ c3_] 33)).alloc (.cells #[.string U', .slice A1' n1' c1', .string V', .string M', .string T', .int .i64 st', .string R', .int .i64 mi', .slice A2' n2' c2', .int .i64 as', .int .i64 go', .int .i64 or', .int .i64 sz', .int .u32 su', .slice A3' n3' c3'] 33) = W := ⟨_, rfl⟩
  have B2 : Hid (Below w.heap.size w w2) := Lib.hid (by rw [← hw2]; exact ((Below.refl _ _).alloc (Nat.le_refl _) _).alloc (by simp) _)
  have hz2 : w2.heap.size = w.heap.size + 2 := by rw [← hw2]; simp
  have HZ2 := Lib.hid hz2
  have R1 : RowAt w2 w.heap.size 33 [.string U_, .slice A1_ n1_ c1_, .string V_, .string M_, .string T_, .int .i64 st_, .string R_, .int .i64 mi_, .slice A2_ n2_ c2_, .int .i64 as_, .int .i64 go_, .int .i64 or_, .int .i64 sz_, .int .u32 su_, .slice A3_ n3_ c3_] := by rw [← hw2]; exact (RowAt.new w 33 [.string U_, .slice A1_ n1_ c1_, .string V_, .string M_, .string T_, .int .i64 st_, .string R_, .int .i64 mi_, .slice A2_ n2_ c2_, .int .i64 as_, .int .i64 go_, .int .i64 or_, .int .i64 sz_, .int .u32 su_, .slice A3_ n3_ c3_]).alloc _
  have R2 : RowAt w2 (w.heap.size + 1) 33 [.string U', .slice A1' n1' c1', .string V', .string M', .string T', .int .i64 st', .string R', .int .i64 mi', .slice A2' n2' c2', .int .i64 as', .int .i64 go', .int .i64 or', .int .i64 sz', .int .u32 su', .slice A3' n3' c3'] := by
    rw [← hw2]
    have h := RowAt.new (w.alloc (.cells #[.string U_, .slice A1_ n1_ c1_, .string V_, .string M_, .string T_, .int .i64 st_, .string R_, .int .i64 mi_, .slice A2_ n2_ c2_, .int .i64 as_, .int .i64 go_, .int .i64 or_, .int .i64 sz_, .int .u32 su_, .slice A3_ n3_ c3_] 33)) 33 [.string U', .slice A1' n1' c1', .string V', .string M', .string T', .int .i64 st', .string R', .int .i64 mi', .slice A2' n2' c2', .int .i64 as', .int .i64 go', .int .i64 or', .int .i64 sz', .int .u32 su', .slice A3' n3' c3']
    rw [World.size_alloc] at h
    exact h
  replace EN := Lib.hid EN
  replace EF := Lib.hid EF
  replace EX := Lib.hid EX
  have d0 := R1.cell (j := 0) rfl
  have f0 := R2.cell (j := 0) rfl
  have d1 := R1.cell (j := 1) rfl
  have f1 := R2.cell (j := 1) rfl
  have d2 := R1.cell (j := 2) rfl
  have f2 := R2.cell (j := 2) rfl
  have d3 := R1.cell (j := 3) rfl
  have f3 := R2.cell (j := 3) rfl
  have d4 := R1.cell (j := 4) rfl
  have f4 := R2.cell (j := 4) rfl
  have d5 := R1.cell (j := 5) rfl
  have f5 := R2.cell (j := 5) rfl
  have d6 := R1.cell (j := 6) rfl
  have f6 := R2.cell (j := 6) rfl
  have d7 := R1.cell (j := 7) rfl
  have f7 := R2.cell (j := 7) rfl
  have d8 := R1.cell (j := 8) rfl
  have f8 := R2.cell (j := 8) rfl
  have d9 := R1.cell (j := 9) rfl
  have f9 := R2.cell (j := 9) rfl
  have d10 := R1.cell (j := 10) rfl
  have f10 := R2.cell (j := 10) rfl
  have d11 := R1.cell (j := 11) rfl
  have f11 := R2.cell (j := 11) rfl
  have d12 := R1.cell (j := 12) rfl
  have f12 := R2.cell (j := 12) rfl
  have d13 := R1.cell (j := 13) rfl
  have f13 := R2.cell (j := 13) rfl
  have d14 := R1.cell (j := 14) rfl
  have f14 := R2.cell (j := 14) rfl
  clear R1 R2 hz2
  obtain ⟨b1, hb1⟩ : ∃ b, (tu && (tv && (tb && (tt && (tO && (tz && ts)))))) = b := ⟨_, rfl⟩
  rw [hb1]
  have HB1 := Lib.hid hb1
  clear hb1
  go_enter Tryd.func11, Tryd.ntmps11
  go_upto_region 1 with fail
  go_cut [5] (fun s wx => s = .bool b1 ∧ wx = w2)
  case first =>
    refine wp_region_seq ?_
    iterate 6
      refine seq_take (v := ?_) (wanted_un rfl) ?_ ?_
      rotate_left
      · go_simp
        try with_reducible rfl
      try simp only [Act.put, List.setIfInBounds_toArray, List.set_cons_zero, List.set_cons_succ]
    cases tu
    · iterate 5
        refine seq_skip (wanted_no rfl rfl rfl rfl) ?_
        try simp only [Act.put, List.setIfInBounds_toArray, List.set_cons_zero, List.set_cons_succ]
      iterate 2
        refine seq_take (v := ?_) (wanted_un rfl) ?_ ?_
        rotate_left
        · go_simp
          try with_reducible rfl
        try simp only [Act.put, List.setIfInBounds_toArray, List.set_cons_zero, List.set_cons_succ]
      iterate 5
        refine seq_skip (wanted_no rfl rfl rfl rfl) ?_
        try simp only [Act.put, List.setIfInBounds_toArray, List.set_cons_zero, List.set_cons_succ]
      iterate 2
        refine seq_take (v := ?_) (wanted_un rfl) ?_ ?_
        rotate_left
        · go_simp
          try with_reducible rfl
        try simp only [Act.put, List.setIfInBounds_toArray, List.set_cons_zero, List.set_cons_succ]
      iterate 5
        refine seq_skip (wanted_no rfl rfl rfl rfl) ?_
        try simp only [Act.put, List.setIfInBounds_toArray, List.set_cons_zero, List.set_cons_succ]
      iterate 2
        refine seq_take (v := ?_) (wanted_un rfl) ?_ ?_
        rotate_left
        · go_simp
          try with_reducible rfl
        try simp only [Act.put, List.setIfInBounds_toArray, List.set_cons_zero, List.set_cons_succ]
      iterate 5
        refine seq_skip (wanted_no rfl rfl rfl rfl) ?_
        try simp only [Act.put, List.setIfInBounds_toArray, List.set_cons_zero, List.set_cons_succ]
      iterate 2
        refine seq_take (v := ?_) (wanted_un rfl) ?_ ?_
        rotate_left
        · go_simp
          try with_reducible rfl
        try simp only [Act.put, List.setIfInBounds_toArray, List.set_cons_zero, List.set_cons_succ]
      iterate 5
        refine seq_skip (wanted_no rfl rfl rfl rfl) ?_
        try simp only [Act.put, List.setIfInBounds_toArray, List.set_cons_zero, List.set_cons_succ]
      iterate 2
        refine seq_take (v := ?_) (wanted_un rfl) ?_ ?_
        rotate_left
        · go_simp
          try with_reducible rfl
        try simp only [Act.put, List.setIfInBounds_toArray, List.set_cons_zero, List.set_cons_succ]
      iterate 5
        refine seq_skip (wanted_no rfl rfl rfl rfl) ?_
        try simp only [Act.put, List.setIfInBounds_toArray, List.set_cons_zero, List.set_cons_succ]
      iterate 2
        refine seq_take (v := ?_) (wanted_un rfl) ?_ ?_
        rotate_left
        · go_simp
          try with_reducible rfl
        try simp only [Act.put, List.setIfInBounds_toArray, List.set_cons_zero, List.set_cons_succ]
      refine seq_done ?_
      go_wp2_with fail
      go_meet
      exact ⟨by rw [← HB1.out]; rfl, rfl⟩
    iterate 5
      refine seq_take (v := ?_) (wanted_yes rfl rfl rfl rfl) ?_ ?_
      rotate_left
      · go_simp
        try with_reducible rfl
      try simp only [Act.put, List.setIfInBounds_toArray, List.set_cons_zero, List.set_cons_succ]
    iterate 2
      refine seq_take (v := ?_) (wanted_un rfl) ?_ ?_
      rotate_left
      · go_simp
        try with_reducible rfl
      try simp only [Act.put, List.setIfInBounds_toArray, List.set_cons_zero, List.set_cons_succ]
    cases tv
    · iterate 5
        refine seq_skip (wanted_no rfl rfl rfl rfl) ?_
        try simp only [Act.put, List.setIfInBounds_toArray, List.set_cons_zero, List.set_cons_succ]
      iterate 2
        refine seq_take (v := ?_) (wanted_un rfl) ?_ ?_
        rotate_left
        · go_simp
          try with_reducible rfl
        try simp only [Act.put, List.setIfInBounds_toArray, List.set_cons_zero, List.set_cons_succ]
      iterate 5
        refine seq_skip (wanted_no rfl rfl rfl rfl) ?_
        try simp only [Act.put, List.setIfInBounds_toArray, List.set_cons_zero, List.set_cons_succ]
      iterate 2
        refine seq_take (v := ?_) (wanted_un rfl) ?_ ?_
        rotate_left
        · go_simp
          try with_reducible rfl
        try simp only [Act.put, List.setIfInBounds_toArray, List.set_cons_zero, List.set_cons_succ]
      iterate 5
        refine seq_skip (wanted_no rfl rfl rfl rfl) ?_
        try simp only [Act.put, List.setIfInBounds_toArray, List.set_cons_zero, List.set_cons_succ]
      iterate 2
        refine seq_take (v := ?_) (wanted_un rfl) ?_ ?_
        rotate_left
        · go_simp
          try with_reducible rfl
        try simp only [Act.put, List.setIfInBounds_toArray, List.set_cons_zero, List.set_cons_succ]
      iterate 5
        refine seq_skip (wanted_no rfl rfl rfl rfl) ?_
        try simp only [Act.put, List.setIfInBounds_toArray, List.set_cons_zero, List.set_cons_succ]
      iterate 2
        refine seq_take (v := ?_) (wanted_un rfl) ?_ ?_
        rotate_left
        · go_simp
          try with_reducible rfl
        try simp only [Act.put, List.setIfInBounds_toArray, List.set_cons_zero, List.set_cons_succ]
      iterate 5
        refine seq_skip (wanted_no rfl rfl rfl rfl) ?_
        try simp only [Act.put, List.setIfInBounds_toArray, List.set_cons_zero, List.set_cons_succ]
      iterate 2
        refine seq_take (v := ?_) (wanted_un rfl) ?_ ?_
        rotate_left
        · go_simp
          try with_reducible rfl
        try simp only [Act.put, List.setIfInBounds_toArray, List.set_cons_zero, List.set_cons_succ]
      refine seq_done ?_
      go_wp2_with fail
      go_meet
      exact ⟨by rw [← HB1.out]; rfl, rfl⟩
    iterate 5
      refine seq_take (v := ?_) (wanted_yes rfl rfl rfl rfl) ?_ ?_
      rotate_left
      · go_simp
        try with_reducible rfl
      try simp only [Act.put, List.setIfInBounds_toArray, List.set_cons_zero, List.set_cons_succ]
    iterate 2
      refine seq_take (v := ?_) (wanted_un rfl) ?_ ?_
      rotate_left
      · go_simp
        try with_reducible rfl
      try simp only [Act.put, List.setIfInBounds_toArray, List.set_cons_zero, List.set_cons_succ]
    cases tb
    · iterate 5
        refine seq_skip (wanted_no rfl rfl rfl rfl) ?_
        try simp only [Act.put, List.setIfInBounds_toArray, List.set_cons_zero, List.set_cons_succ]
      iterate 2
        refine seq_take (v := ?_) (wanted_un rfl) ?_ ?_
        rotate_left
        · go_simp
          try with_reducible rfl
        try simp only [Act.put, List.setIfInBounds_toArray, List.set_cons_zero, List.set_cons_succ]
      iterate 5
        refine seq_skip (wanted_no rfl rfl rfl rfl) ?_
        try simp only [Act.put, List.setIfInBounds_toArray, List.set_cons_zero, List.set_cons_succ]
      iterate 2
        refine seq_take (v := ?_) (wanted_un rfl) ?_ ?_
        rotate_left
        · go_simp
          try with_reducible rfl
        try simp only [Act.put, List.setIfInBounds_toArray, List.set_cons_zero, List.set_cons_succ]
      iterate 5
        refine seq_skip (wanted_no rfl rfl rfl rfl) ?_
        try simp only [Act.put, List.setIfInBounds_toArray, List.set_cons_zero, List.set_cons_succ]
      iterate 2
        refine seq_take (v := ?_) (wanted_un rfl) ?_ ?_
        rotate_left
        · go_simp
          try with_reducible rfl
        try simp only [Act.put, List.setIfInBounds_toArray, List.set_cons_zero, List.set_cons_succ]
      iterate 5
        refine seq_skip (wanted_no rfl rfl rfl rfl) ?_
        try simp only [Act.put, List.setIfInBounds_toArray, List.set_cons_zero, List.set_cons_succ]
      iterate 2
        refine seq_take (v := ?_) (wanted_un rfl) ?_ ?_
        rotate_left
        · go_simp
          try with_reducible rfl
        try simp only [Act.put, List.setIfInBounds_toArray, List.set_cons_zero, List.set_cons_succ]
      refine seq_done ?_
      go_wp2_with fail
      go_meet
      exact ⟨by rw [← HB1.out]; rfl, rfl⟩
    iterate 5
      refine seq_take (v := ?_) (wanted_yes rfl rfl rfl rfl) ?_ ?_
      rotate_left
      · go_simp
        try with_reducible rfl
      try simp only [Act.put, List.setIfInBounds_toArray, List.set_cons_zero, List.set_cons_succ]
    iterate 2
      refine seq_take (v := ?_) (wanted_un rfl) ?_ ?_
      rotate_left
      · go_simp
        try with_reducible rfl
      try simp only [Act.put, List.setIfInBounds_toArray, List.set_cons_zero, List.set_cons_succ]
    cases tt
    · iterate 5
        refine seq_skip (wanted_no rfl rfl rfl rfl) ?_
        try simp only [Act.put, List.setIfInBounds_toArray, List.set_cons_zero, List.set_cons_succ]
      iterate 2
        refine seq_take (v := ?_) (wanted_un rfl) ?_ ?_
        rotate_left
        · go_simp
          try with_reducible rfl
        try simp only [Act.put, List.setIfInBounds_toArray, List.set_cons_zero, List.set_cons_succ]
      iterate 5
        refine seq_skip (wanted_no rfl rfl rfl rfl) ?_
        try simp only [Act.put, List.setIfInBounds_toArray, List.set_cons_zero, List.set_cons_succ]
      iterate 2
        refine seq_take (v := ?_) (wanted_un rfl) ?_ ?_
        rotate_left
        · go_simp
          try with_reducible rfl
        try simp only [Act.put, List.setIfInBounds_toArray, List.set_cons_zero, List.set_cons_succ]
      iterate 5
        refine seq_skip (wanted_no rfl rfl rfl rfl) ?_
        try simp only [Act.put, List.setIfInBounds_toArray, List.set_cons_zero, List.set_cons_succ]
      iterate 2
        refine seq_take (v := ?_) (wanted_un rfl) ?_ ?_
        rotate_left
        · go_simp
          try with_reducible rfl
        try simp only [Act.put, List.setIfInBounds_toArray, List.set_cons_zero, List.set_cons_succ]
      refine seq_done ?_
      go_wp2_with fail
      go_meet
      exact ⟨by rw [← HB1.out]; rfl, rfl⟩
    iterate 5
      refine seq_take (v := ?_) (wanted_yes rfl rfl rfl rfl) ?_ ?_
      rotate_left
      · go_simp
        try with_reducible rfl
      try simp only [Act.put, List.setIfInBounds_toArray, List.set_cons_zero, List.set_cons_succ]
    iterate 2
      refine seq_take (v := ?_) (wanted_un rfl) ?_ ?_
      rotate_left
      · go_simp
        try with_reducible rfl
      try simp only [Act.put, List.setIfInBounds_toArray, List.set_cons_zero, List.set_cons_succ]
    cases tO
    · iterate 5
        refine seq_skip (wanted_no rfl rfl rfl rfl) ?_
        try simp only [Act.put, List.setIfInBounds_toArray, List.set_cons_zero, List.set_cons_succ]
      iterate 2
        refine seq_take (v := ?_) (wanted_un rfl) ?_ ?_
        rotate_left
        · go_simp
          try with_reducible rfl
        try simp only [Act.put, List.setIfInBounds_toArray, List.set_cons_zero, List.set_cons_succ]
      iterate 5
        refine seq_skip (wanted_no rfl rfl rfl rfl) ?_
        try simp only [Act.put, List.setIfInBounds_toArray, List.set_cons_zero, List.set_cons_succ]
      iterate 2
        refine seq_take (v := ?_) (wanted_un rfl) ?_ ?_
        rotate_left
        · go_simp
          try with_reducible rfl
        try simp only [Act.put, List.setIfInBounds_toArray, List.set_cons_zero, List.set_cons_succ]
      refine seq_done ?_
      go_wp2_with fail
      go_meet
      exact ⟨by rw [← HB1.out]; rfl, rfl⟩
    iterate 5
      refine seq_take (v := ?_) (wanted_yes rfl rfl rfl rfl) ?_ ?_
      rotate_left
      · go_simp
        try with_reducible rfl
      try simp only [Act.put, List.setIfInBounds_toArray, List.set_cons_zero, List.set_cons_succ]
    iterate 2
      refine seq_take (v := ?_) (wanted_un rfl) ?_ ?_
      rotate_left
      · go_simp
        try with_reducible rfl
      try simp only [Act.put, List.setIfInBounds_toArray, List.set_cons_zero, List.set_cons_succ]
    cases tz
    · iterate 5
        refine seq_skip (wanted_no rfl rfl rfl rfl) ?_
        try simp only [Act.put, List.setIfInBounds_toArray, List.set_cons_zero, List.set_cons_succ]
      iterate 2
        refine seq_take (v := ?_) (wanted_un rfl) ?_ ?_
        rotate_left
        · go_simp
          try with_reducible rfl
        try simp only [Act.put, List.setIfInBounds_toArray, List.set_cons_zero, List.set_cons_succ]
      refine seq_done ?_
      go_wp2_with fail
      go_meet
      exact ⟨by rw [← HB1.out]; rfl, rfl⟩
    iterate 5
      refine seq_take (v := ?_) (wanted_yes rfl rfl rfl rfl) ?_ ?_
      rotate_left
      · go_simp
        try with_reducible rfl
      try simp only [Act.put, List.setIfInBounds_toArray, List.set_cons_zero, List.set_cons_succ]
    iterate 2
      refine seq_take (v := ?_) (wanted_un rfl) ?_ ?_
      rotate_left
      · go_simp
        try with_reducible rfl
      try simp only [Act.put, List.setIfInBounds_toArray, List.set_cons_zero, List.set_cons_succ]
    refine seq_done ?_
    go_wp2_with fail
    go_meet
    exact ⟨by rw [← HB1.out]; rfl, rfl⟩
  case rest =>
    obtain ⟨rfl, hwc⟩ := hcut
    subst hwc
    clear d0 d2 d3 d4 d5 d6 d7 d9 d10 d11 d12 d13 f0 f2 f3 f4 f5 f6 f7 f9 f10 f11 f12 f13 hu hv hb ht ho hz hs hw2
    go_upto_region 2 with fail
    refine wp_region_seq ?_
    iterate 2
      refine seq_take (v := ?_) (wanted_un rfl) ?_ ?_
      rotate_left
      · go_simp
        try with_reducible rfl
      try simp only [Act.put, List.setIfInBounds_toArray, List.set_cons_zero, List.set_cons_succ]
    cases b1
    · iterate 5
        refine seq_skip (wanted_no rfl rfl rfl rfl) ?_
        try simp only [Act.put, List.setIfInBounds_toArray, List.set_cons_zero, List.set_cons_succ]
      iterate 2
        refine seq_take (v := ?_) (wanted_un rfl) ?_ ?_
        rotate_left
        · go_simp
          try with_reducible rfl
        try simp only [Act.put, List.setIfInBounds_toArray, List.set_cons_zero, List.set_cons_succ]
      iterate 5
        refine seq_skip (wanted_no rfl rfl rfl rfl) ?_
        try simp only [Act.put, List.setIfInBounds_toArray, List.set_cons_zero, List.set_cons_succ]
      iterate 2
        refine seq_take (v := ?_) (wanted_un rfl) ?_ ?_
        rotate_left
        · go_simp
          try with_reducible rfl
        try simp only [Act.put, List.setIfInBounds_toArray, List.set_cons_zero, List.set_cons_succ]
      iterate 5
        refine seq_skip (wanted_no rfl rfl rfl rfl) ?_
        try simp only [Act.put, List.setIfInBounds_toArray, List.set_cons_zero, List.set_cons_succ]
      iterate 2
        refine seq_take (v := ?_) (wanted_un rfl) ?_ ?_
        rotate_left
        · go_simp
          try with_reducible rfl
        try simp only [Act.put, List.setIfInBounds_toArray, List.set_cons_zero, List.set_cons_succ]
      refine seq_done ?_
      go_wp2
      go_ret
      refine ⟨ret_bool (by simp), ?_⟩
      first | exact B2.out | exact below_drewN B2.out _ | exact below_drewN (below_drewN B2.out _) _ | exact below_drewN (below_drewN (below_drewN B2.out _) _) _
    iterate 4
      refine seq_take (v := ?_) (wanted_yes rfl rfl rfl rfl) ?_ ?_
      rotate_left
      · go_simp
        try with_reducible rfl
      try simp only [Act.put, List.setIfInBounds_toArray, List.set_cons_zero, List.set_cons_succ]
    refine seq_move (wanted_yes rfl rfl rfl rfl) (fun K hK => ?_)
    go_simp
    (with_reducible refine (EN.out _ B2.out).mono ?_)
    rintro e w3 ⟨rfl, q3, rfl⟩
    refine hK.out _ _ ?_
    clear hK K
    try simp only [Act.put, List.setIfInBounds_toArray, List.set_cons_zero, List.set_cons_succ]
    iterate 2
      refine seq_take (v := ?_) (wanted_un rfl) ?_ ?_
      rotate_left
      · go_simp
        try with_reducible rfl
      try simp only [Act.put, List.setIfInBounds_toArray, List.set_cons_zero, List.set_cons_succ]
    cases tn
    · iterate 5
        refine seq_skip (wanted_no rfl rfl rfl rfl) ?_
        try simp only [Act.put, List.setIfInBounds_toArray, List.set_cons_zero, List.set_cons_succ]
      iterate 2
        refine seq_take (v := ?_) (wanted_un rfl) ?_ ?_
        rotate_left
        · go_simp
          try with_reducible rfl
        try simp only [Act.put, List.setIfInBounds_toArray, List.set_cons_zero, List.set_cons_succ]
      iterate 5
        refine seq_skip (wanted_no rfl rfl rfl rfl) ?_
        try simp only [Act.put, List.setIfInBounds_toArray, List.set_cons_zero, List.set_cons_succ]
      iterate 2
        refine seq_take (v := ?_) (wanted_un rfl) ?_ ?_
        rotate_left
        · go_simp
          try with_reducible rfl
        try simp only [Act.put, List.setIfInBounds_toArray, List.set_cons_zero, List.set_cons_succ]
      refine seq_done ?_
      go_wp2
      go_ret
      refine ⟨ret_bool (by simp), ?_⟩
      first | exact B2.out | exact below_drewN B2.out _ | exact below_drewN (below_drewN B2.out _) _ | exact below_drewN (below_drewN (below_drewN B2.out _) _) _
    iterate 4
      refine seq_take (v := ?_) (wanted_yes rfl rfl rfl rfl) ?_ ?_
      rotate_left
      · go_simp
        try with_reducible rfl
      try simp only [Act.put, List.setIfInBounds_toArray, List.set_cons_zero, List.set_cons_succ]
    refine seq_move (wanted_yes rfl rfl rfl rfl) (fun K hK => ?_)
    go_simp
    (with_reducible refine (EF.out _ (below_drewN B2.out _)).mono ?_)
    rintro e w3 ⟨rfl, q4, rfl⟩
    refine hK.out _ _ ?_
    clear hK K
    try simp only [Act.put, List.setIfInBounds_toArray, List.set_cons_zero, List.set_cons_succ]
    iterate 2
      refine seq_take (v := ?_) (wanted_un rfl) ?_ ?_
      rotate_left
      · go_simp
        try with_reducible rfl
      try simp only [Act.put, List.setIfInBounds_toArray, List.set_cons_zero, List.set_cons_succ]
    cases tf
    · iterate 5
        refine seq_skip (wanted_no rfl rfl rfl rfl) ?_
        try simp only [Act.put, List.setIfInBounds_toArray, List.set_cons_zero, List.set_cons_succ]
      iterate 2
        refine seq_take (v := ?_) (wanted_un rfl) ?_ ?_
        rotate_left
        · go_simp
          try with_reducible rfl
        try simp only [Act.put, List.setIfInBounds_toArray, List.set_cons_zero, List.set_cons_succ]
      refine seq_done ?_
      go_wp2
      go_ret
      refine ⟨ret_bool (by simp), ?_⟩
      first | exact B2.out | exact below_drewN B2.out _ | exact below_drewN (below_drewN B2.out _) _ | exact below_drewN (below_drewN (below_drewN B2.out _) _) _
    iterate 4
      refine seq_take (v := ?_) (wanted_yes rfl rfl rfl rfl) ?_ ?_
      rotate_left
      · go_simp
        try with_reducible rfl
      try simp only [Act.put, List.setIfInBounds_toArray, List.set_cons_zero, List.set_cons_succ]
    refine seq_move (wanted_yes rfl rfl rfl rfl) (fun K hK => ?_)
    go_simp
    (with_reducible refine (EX.out _ (below_drewN B2.out _)).mono ?_)
    rintro e w3 ⟨rfl, q5, rfl⟩
    refine hK.out _ _ ?_
    clear hK K
    try simp only [Act.put, List.setIfInBounds_toArray, List.set_cons_zero, List.set_cons_succ]
    iterate 2
      refine seq_take (v := ?_) (wanted_un rfl) ?_ ?_
      rotate_left
      · go_simp
        try with_reducible rfl
      try simp only [Act.put, List.setIfInBounds_toArray, List.set_cons_zero, List.set_cons_succ]
    refine seq_done ?_
    go_wp2
    go_ret
    refine ⟨ret_bool (by simp), ?_⟩
    first | exact B2.out | exact below_drewN B2.out _ | exact below_drewN (below_drewN B2.out _) _ | exact below_drewN (below_drewN (below_drewN B2.out _) _) _
set_option maxHeartbeats 32000000 in
theorem rsame_raw (U_ V_ M_ T_ R_ U' V' M' T' R' : ByteArray) (A1_ A2_ A3_ A1' A2' A3' : Option Addr) (n1_ c1_ n2_ c2_ n3_ c3_ n1' c1' n2' c2' n3' c3' : Nat) (st_ mi_ as_ go_ or_ sz_ su_ st' mi' as' go' or' sz' su' : Int) (w : World) (tu tv tb tt tO tz ts tn tf tx : Bool)
    (hu : (U_.toList == U'.toList) = tu) (hv : (V_.toList == V'.toList) = tv) (hb : ∀ w, (binOp .eql 26 (.agg #[.string M_, .string T_, .int .i64 st_, .string R_, .int .i64 mi_]) (.agg #[.string M', .string T', .int .i64 st', .string R', .int .i64 mi'])).run Tryd.prog w = .ok (.bool tb) w)
    (ht : ∀ w, (binOp .eql 29 (.agg #[.int .i64 as_, .int .i64 go_]) (.agg #[.int .i64 as', .int .i64 go'])).run Tryd.prog w = .ok (.bool tt) w) (ho : (or_ == or') = tO) (hz : (sz_ == sz') = tz) (hs : (su_ == su') = ts)
    (X Y : List (Int × Int)) (hX : SliceIn w w.heap.size 2 A3_ n3_ c3_ (extsV X)) (hY : SliceIn w w.heap.size 2 A3' n3' c3' (extsV Y)) (hn3 : n3_ ≤ 1000000000) (hxx : (X == Y) = tx)
    (EN : ∀ W, Below w.heap.size w W → Calls Tryd.prog 22 #[.slice A1_ n1_ c1_, .slice A1' n1' c1'] W fun e w' => e = .returned (.bool tn) ∧ ∃ q, w' = W.drewN q)
    (EF : ∀ W, Below w.heap.size w W → Calls Tryd.prog 23 #[.slice A2_ n2_ c2_, .slice A2' n2' c2'] W fun e w' => e = .returned (.bool tf) ∧ ∃ q, w' = W.drewN q) :
    Calls Tryd.prog 9 #[.agg #[.string U_, .slice A1_ n1_ c1_, .string V_, .string M_, .string T_, .int .i64 st_, .string R_, .int .i64 mi_, .slice A2_ n2_ c2_, .int .i64 as_, .int .i64 go_, .int .i64 or_, .int .i64 sz_, .int .u32 su_, .slice A3_ n3_ c3_], .agg #[.string U', .slice A1' n1' c1', .string V', .string M', .string T', .int .i64 st', .string R', .int .i64 mi', .slice A2' n2' c2', .int .i64 as', .int .i64 go', .int .i64 or', .int .i64 sz', .int .u32 su', .slice A3' n3' c3']] w fun e w' => e = .returned (.bool ((tu && (tv && (tb && (tt && (tO && (tz && ts)))))) && (tn && (tf && tx)))) ∧ Below w.heap.size w w' := by
  obtain ⟨w2, hw2⟩ : ∃ W, (w.alloc (.cells #[.string U_, .slice A1_ n1_ c1_, .string V_, .string M_, .string T_, .int .i64 st_, .string R_, .int .i64 mi_, .slice A2_ n2_ c2_, .int .i64 as_, .int .i64 go_, .int .i64 or_, .int .i64 sz_, .int .u32 su_, .slice A3_ n3_ c3_] 33)).alloc (.cells #[.string U', .slice A1' n1' c1', .string V', .string M', .string T', .int .i64 st', .string R', .int .i64 mi', .slice A2' n2' c2', .int .i64 as', .int .i64 go', .int .i64 or', .int .i64 sz', .int .u32 su', .slice A3' n3' c3'] 33) = W := ⟨_, rfl⟩
  have B2 : Hid (Below w.heap.size w w2) := Lib.hid (by rw [← hw2]; exact ((Below.refl _ _).alloc (Nat.le_refl _) _).alloc (by simp) _)
  have hz2 : w2.heap.size = w.heap.size + 2 := by rw [← hw2]; simp
  have HZ2 := Lib.hid hz2
  have R1 : RowAt w2 w.heap.size 33 [.string U_, .slice A1_ n1_ c1_, .string V_, .string M_, .string T_, .int .i64 st_, .string R_, .int .i64 mi_, .slice A2_ n2_ c2_, .int .i64 as_, .int .i64 go_, .int .i64 or_, .int .i64 sz_, .int .u32 su_, .slice A3_ n3_ c3_] := by rw [← hw2]; exact (RowAt.new w 33 [.string U_, .slice A1_ n1_ c1_, .string V_, .string M_, .string T_, .int .i64 st_, .string R_, .int .i64 mi_, .slice A2_ n2_ c2_, .int .i64 as_, .int .i64 go_, .int .i64 or_, .int .i64 sz_, .int .u32 su_, .slice A3_ n3_ c3_]).alloc _
  have R2 : RowAt w2 (w.heap.size + 1) 33 [.string U', .slice A1' n1' c1', .string V', .string M', .string T', .int .i64 st', .string R', .int .i64 mi', .slice A2' n2' c2', .int .i64 as', .int .i64 go', .int .i64 or', .int .i64 sz', .int .u32 su', .slice A3' n3' c3'] := by
    rw [← hw2]
    have h := RowAt.new (w.alloc (.cells #[.string U_, .slice A1_ n1_ c1_, .string V_, .string M_, .string T_, .int .i64 st_, .string R_, .int .i64 mi_, .slice A2_ n2_ c2_, .int .i64 as_, .int .i64 go_, .int .i64 or_, .int .i64 sz_, .int .u32 su_, .slice A3_ n3_ c3_] 33)) 33 [.string U', .slice A1' n1' c1', .string V', .string M', .string T', .int .i64 st', .string R', .int .i64 mi', .slice A2' n2' c2', .int .i64 as', .int .i64 go', .int .i64 or', .int .i64 sz', .int .u32 su', .slice A3' n3' c3']
    rw [World.size_alloc] at h
    exact h
  replace EN := Lib.hid EN
  replace EF := Lib.hid EF
  have d0 := R1.cell (j := 0) rfl
  have f0 := R2.cell (j := 0) rfl
  have d1 := R1.cell (j := 1) rfl
  have f1 := R2.cell (j := 1) rfl
  have d2 := R1.cell (j := 2) rfl
  have f2 := R2.cell (j := 2) rfl
  have d3 := R1.cell (j := 3) rfl
  have f3 := R2.cell (j := 3) rfl
  have d4 := R1.cell (j := 4) rfl
  have f4 := R2.cell (j := 4) rfl
  have d5 := R1.cell (j := 5) rfl
  have f5 := R2.cell (j := 5) rfl
  have d6 := R1.cell (j := 6) rfl
  have f6 := R2.cell (j := 6) rfl
  have d7 := R1.cell (j := 7) rfl
  have f7 := R2.cell (j := 7) rfl
  have d8 := R1.cell (j := 8) rfl
  have f8 := R2.cell (j := 8) rfl
  have d9 := R1.cell (j := 9) rfl
  have f9 := R2.cell (j := 9) rfl
  have d10 := R1.cell (j := 10) rfl
  have f10 := R2.cell (j := 10) rfl
  have d11 := R1.cell (j := 11) rfl
  have f11 := R2.cell (j := 11) rfl
  have d12 := R1.cell (j := 12) rfl
  have f12 := R2.cell (j := 12) rfl
  have d13 := R1.cell (j := 13) rfl
  have f13 := R2.cell (j := 13) rfl
  have d14 := R1.cell (j := 14) rfl
  have f14 := R2.cell (j := 14) rfl
  have nu : (U_.toList != U'.toList) = !tu := by rw [bne, hu]
  have nv : (V_.toList != V'.toList) = !tv := by rw [bne, hv]
  have nb := fun w => neq_of_eql (hb w)
  have nt := fun w => neq_of_eql (ht w)
  have no : (or_ != or') = !tO := by rw [bne, ho]
  have nz : (sz_ != sz') = !tz := by rw [bne, hz]
  have ns : (su_ != su') = !ts := by rw [bne, hs]
  have HR1 := Lib.hid R1
  have HR2 := Lib.hid R2
  have L1 := Lib.hid (ext_count hX)
  have L2 := Lib.hid (ext_count hY)
  have HX := Lib.hid hX
  have HY := Lib.hid hY
  have HXX := Lib.hid hxx
  obtain ⟨tl, htl⟩ : ∃ b, ((n3_ : Int) == (n3' : Int)) = b := ⟨_, rfl⟩
  have nl : ((n3_ : Int) != (n3' : Int)) = !tl := by rw [bne, htl]
  have HTL := Lib.hid htl
  have HTX : Hid (tl = false → tx = false) := Lib.hid (fun h => by
    rw [← hxx, beq_eq_false_iff_ne]
    rintro rfl
    rw [h, beq_eq_false_iff_ne] at htl
    have := L1.out
    have := L2.out
    omega)
  clear R1 R2 hz2 hX hY hxx
  obtain ⟨b1, hb1⟩ : ∃ b, ((tu && (tv && (tb && (tt && (tO && (tz && ts)))))) && (tn && (tf && tl))) = b := ⟨_, rfl⟩
  obtain ⟨TT, hTT⟩ : ∃ b, ((tu && (tv && (tb && (tt && (tO && (tz && ts)))))) && (tn && (tf && tx))) = b := ⟨_, rfl⟩
  rw [hTT]
  have HB1 := Lib.hid hb1
  have HTT := Lib.hid hTT
  clear hb1 hTT
  go_enter Tryd.func9, Tryd.ntmps9
  go_upto_region 1 with fail
  go_cut [77] (fun s wx => s = .bool (!b1) ∧ ∃ q, wx = w2.drewN q)
  case first =>
    refine wp_region_seq ?_
    iterate 6
      refine seq_take (v := ?_) (wanted_un rfl) ?_ ?_
      rotate_left
      · go_simp
        try with_reducible rfl
      try simp only [Act.put, List.setIfInBounds_toArray, List.set_cons_zero, List.set_cons_succ]
    cases tu
    rotate_left
    · iterate 5
        refine seq_take (v := ?_) (wanted_yes rfl rfl rfl rfl) ?_ ?_
        rotate_left
        · go_simp
          try with_reducible rfl
        try simp only [Act.put, List.setIfInBounds_toArray, List.set_cons_zero, List.set_cons_succ]
      iterate 2
        refine seq_take (v := ?_) (wanted_un rfl) ?_ ?_
        rotate_left
        · go_simp
          try with_reducible rfl
        try simp only [Act.put, List.setIfInBounds_toArray, List.set_cons_zero, List.set_cons_succ]
      cases tv
      rotate_left
      · iterate 5
          refine seq_take (v := ?_) (wanted_yes rfl rfl rfl rfl) ?_ ?_
          rotate_left
          · go_simp
            try with_reducible rfl
          try simp only [Act.put, List.setIfInBounds_toArray, List.set_cons_zero, List.set_cons_succ]
        iterate 2
          refine seq_take (v := ?_) (wanted_un rfl) ?_ ?_
          rotate_left
          · go_simp
            try with_reducible rfl
          try simp only [Act.put, List.setIfInBounds_toArray, List.set_cons_zero, List.set_cons_succ]
        cases tb
        rotate_left
        · iterate 5
            refine seq_take (v := ?_) (wanted_yes rfl rfl rfl rfl) ?_ ?_
            rotate_left
            · go_simp
              try with_reducible rfl
            try simp only [Act.put, List.setIfInBounds_toArray, List.set_cons_zero, List.set_cons_succ]
          iterate 2
            refine seq_take (v := ?_) (wanted_un rfl) ?_ ?_
            rotate_left
            · go_simp
              try with_reducible rfl
            try simp only [Act.put, List.setIfInBounds_toArray, List.set_cons_zero, List.set_cons_succ]
          cases tt
          rotate_left
          · iterate 5
              refine seq_take (v := ?_) (wanted_yes rfl rfl rfl rfl) ?_ ?_
              rotate_left
              · go_simp
                try with_reducible rfl
              try simp only [Act.put, List.setIfInBounds_toArray, List.set_cons_zero, List.set_cons_succ]
            iterate 2
              refine seq_take (v := ?_) (wanted_un rfl) ?_ ?_
              rotate_left
              · go_simp
                try with_reducible rfl
              try simp only [Act.put, List.setIfInBounds_toArray, List.set_cons_zero, List.set_cons_succ]
            cases tO
            rotate_left
            · iterate 5
                refine seq_take (v := ?_) (wanted_yes rfl rfl rfl rfl) ?_ ?_
                rotate_left
                · go_simp
                  try with_reducible rfl
                try simp only [Act.put, List.setIfInBounds_toArray, List.set_cons_zero, List.set_cons_succ]
              iterate 2
                refine seq_take (v := ?_) (wanted_un rfl) ?_ ?_
                rotate_left
                · go_simp
                  try with_reducible rfl
                try simp only [Act.put, List.setIfInBounds_toArray, List.set_cons_zero, List.set_cons_succ]
              cases tz
              rotate_left
              · iterate 5
                  refine seq_take (v := ?_) (wanted_yes rfl rfl rfl rfl) ?_ ?_
                  rotate_left
                  · go_simp
                    try with_reducible rfl
                  try simp only [Act.put, List.setIfInBounds_toArray, List.set_cons_zero, List.set_cons_succ]
                iterate 2
                  refine seq_take (v := ?_) (wanted_un rfl) ?_ ?_
                  rotate_left
                  · go_simp
                    try with_reducible rfl
                  try simp only [Act.put, List.setIfInBounds_toArray, List.set_cons_zero, List.set_cons_succ]
                cases ts
                rotate_left
                · iterate 4
                    refine seq_take (v := ?_) (wanted_yes rfl rfl rfl rfl) ?_ ?_
                    rotate_left
                    · go_simp
                      try with_reducible rfl
                    try simp only [Act.put, List.setIfInBounds_toArray, List.set_cons_zero, List.set_cons_succ]
                  refine seq_move (wanted_yes rfl rfl rfl rfl) (fun K hK => ?_)
                  go_simp
                  (with_reducible refine (EN.out _ B2.out).mono ?_)
                  rintro e w3 ⟨rfl, q3, rfl⟩
                  refine hK.out _ _ ?_
                  clear hK K
                  try simp only [Act.put, List.setIfInBounds_toArray, List.set_cons_zero, List.set_cons_succ]
                  iterate 1
                    refine seq_take (v := ?_) (wanted_yes rfl rfl rfl rfl) ?_ ?_
                    rotate_left
                    · go_simp
                      try with_reducible rfl
                    try simp only [Act.put, List.setIfInBounds_toArray, List.set_cons_zero, List.set_cons_succ]
                  iterate 2
                    refine seq_take (v := ?_) (wanted_un rfl) ?_ ?_
                    rotate_left
                    · go_simp
                      try with_reducible rfl
                    try simp only [Act.put, List.setIfInBounds_toArray, List.set_cons_zero, List.set_cons_succ]
                  cases tn
                  rotate_left
                  · iterate 4
                      refine seq_take (v := ?_) (wanted_yes rfl rfl rfl rfl) ?_ ?_
                      rotate_left
                      · go_simp
                        try with_reducible rfl
                      try simp only [Act.put, List.setIfInBounds_toArray, List.set_cons_zero, List.set_cons_succ]
                    refine seq_move (wanted_yes rfl rfl rfl rfl) (fun K hK => ?_)
                    go_simp
                    (with_reducible refine (EF.out _ (below_drewN B2.out _)).mono ?_)
                    rintro e w3 ⟨rfl, q4, rfl⟩
                    refine hK.out _ _ ?_
                    clear hK K
                    try simp only [Act.put, List.setIfInBounds_toArray, List.set_cons_zero, List.set_cons_succ]
                    iterate 1
                      refine seq_take (v := ?_) (wanted_yes rfl rfl rfl rfl) ?_ ?_
                      rotate_left
                      · go_simp
                        try with_reducible rfl
                      try simp only [Act.put, List.setIfInBounds_toArray, List.set_cons_zero, List.set_cons_succ]
                    iterate 2
                      refine seq_take (v := ?_) (wanted_un rfl) ?_ ?_
                      rotate_left
                      · go_simp
                        try with_reducible rfl
                      try simp only [Act.put, List.setIfInBounds_toArray, List.set_cons_zero, List.set_cons_succ]
                    cases tf
                    rotate_left
                    · iterate 7
                        refine seq_take (v := ?_) (wanted_yes rfl rfl rfl rfl) ?_ ?_
                        rotate_left
                        · go_simp
                          try with_reducible rfl
                        try simp only [Act.put, List.setIfInBounds_toArray, List.set_cons_zero, List.set_cons_succ]
                      iterate 1
                        refine seq_take (v := ?_) (wanted_un rfl) ?_ ?_
                        rotate_left
                        · go_simp
                          try with_reducible rfl
                        try simp only [Act.put, List.setIfInBounds_toArray, List.set_cons_zero, List.set_cons_succ]
                      refine seq_done ?_
                      go_wp2_with fail
                      go_meet
                      exact ⟨by rw [← HB1.out]; simp, by first | exact ⟨0, rfl⟩ | exact ⟨_, rfl⟩ | exact ⟨_, World.drewN_drewN _ _ _⟩⟩
                    iterate 7
                      refine seq_skip (wanted_no rfl rfl rfl rfl) ?_
                      try simp only [Act.put, List.setIfInBounds_toArray, List.set_cons_zero, List.set_cons_succ]
                    iterate 1
                      refine seq_take (v := ?_) (wanted_un rfl) ?_ ?_
                      rotate_left
                      · go_simp
                        try with_reducible rfl
                      try simp only [Act.put, List.setIfInBounds_toArray, List.set_cons_zero, List.set_cons_succ]
                    refine seq_done ?_
                    go_wp2_with fail
                    go_meet
                    exact ⟨by rw [← HB1.out]; simp, by first | exact ⟨0, rfl⟩ | exact ⟨_, rfl⟩ | exact ⟨_, World.drewN_drewN _ _ _⟩⟩
                  iterate 6
                    refine seq_skip (wanted_no rfl rfl rfl rfl) ?_
                    try simp only [Act.put, List.setIfInBounds_toArray, List.set_cons_zero, List.set_cons_succ]
                  iterate 2
                    refine seq_take (v := ?_) (wanted_un rfl) ?_ ?_
                    rotate_left
                    · go_simp
                      try with_reducible rfl
                    try simp only [Act.put, List.setIfInBounds_toArray, List.set_cons_zero, List.set_cons_succ]
                  iterate 7
                    refine seq_skip (wanted_no rfl rfl rfl rfl) ?_
                    try simp only [Act.put, List.setIfInBounds_toArray, List.set_cons_zero, List.set_cons_succ]
                  iterate 1
                    refine seq_take (v := ?_) (wanted_un rfl) ?_ ?_
                    rotate_left
                    · go_simp
                      try with_reducible rfl
                    try simp only [Act.put, List.setIfInBounds_toArray, List.set_cons_zero, List.set_cons_succ]
                  refine seq_done ?_
                  go_wp2_with fail
                  go_meet
                  exact ⟨by rw [← HB1.out]; simp, by first | exact ⟨0, rfl⟩ | exact ⟨_, rfl⟩ | exact ⟨_, World.drewN_drewN _ _ _⟩⟩
                iterate 6
                  refine seq_skip (wanted_no rfl rfl rfl rfl) ?_
                  try simp only [Act.put, List.setIfInBounds_toArray, List.set_cons_zero, List.set_cons_succ]
                iterate 2
                  refine seq_take (v := ?_) (wanted_un rfl) ?_ ?_
                  rotate_left
                  · go_simp
                    try with_reducible rfl
                  try simp only [Act.put, List.setIfInBounds_toArray, List.set_cons_zero, List.set_cons_succ]
                iterate 6
                  refine seq_skip (wanted_no rfl rfl rfl rfl) ?_
                  try simp only [Act.put, List.setIfInBounds_toArray, List.set_cons_zero, List.set_cons_succ]
                iterate 2
                  refine seq_take (v := ?_) (wanted_un rfl) ?_ ?_
                  rotate_left
                  · go_simp
                    try with_reducible rfl
                  try simp only [Act.put, List.setIfInBounds_toArray, List.set_cons_zero, List.set_cons_succ]
                iterate 7
                  refine seq_skip (wanted_no rfl rfl rfl rfl) ?_
                  try simp only [Act.put, List.setIfInBounds_toArray, List.set_cons_zero, List.set_cons_succ]
                iterate 1
                  refine seq_take (v := ?_) (wanted_un rfl) ?_ ?_
                  rotate_left
                  · go_simp
                    try with_reducible rfl
                  try simp only [Act.put, List.setIfInBounds_toArray, List.set_cons_zero, List.set_cons_succ]
                refine seq_done ?_
                go_wp2_with fail
                go_meet
                exact ⟨by rw [← HB1.out]; simp, by first | exact ⟨0, rfl⟩ | exact ⟨_, rfl⟩ | exact ⟨_, World.drewN_drewN _ _ _⟩⟩
              iterate 5
                refine seq_skip (wanted_no rfl rfl rfl rfl) ?_
                try simp only [Act.put, List.setIfInBounds_toArray, List.set_cons_zero, List.set_cons_succ]
              iterate 2
                refine seq_take (v := ?_) (wanted_un rfl) ?_ ?_
                rotate_left
                · go_simp
                  try with_reducible rfl
                try simp only [Act.put, List.setIfInBounds_toArray, List.set_cons_zero, List.set_cons_succ]
              iterate 6
                refine seq_skip (wanted_no rfl rfl rfl rfl) ?_
                try simp only [Act.put, List.setIfInBounds_toArray, List.set_cons_zero, List.set_cons_succ]
              iterate 2
                refine seq_take (v := ?_) (wanted_un rfl) ?_ ?_
                rotate_left
                · go_simp
                  try with_reducible rfl
                try simp only [Act.put, List.setIfInBounds_toArray, List.set_cons_zero, List.set_cons_succ]
              iterate 6
                refine seq_skip (wanted_no rfl rfl rfl rfl) ?_
                try simp only [Act.put, List.setIfInBounds_toArray, List.set_cons_zero, List.set_cons_succ]
              iterate 2
                refine seq_take (v := ?_) (wanted_un rfl) ?_ ?_
                rotate_left
                · go_simp
                  try with_reducible rfl
                try simp only [Act.put, List.setIfInBounds_toArray, List.set_cons_zero, List.set_cons_succ]
              iterate 7
                refine seq_skip (wanted_no rfl rfl rfl rfl) ?_
                try simp only [Act.put, List.setIfInBounds_toArray, List.set_cons_zero, List.set_cons_succ]
              iterate 1
                refine seq_take (v := ?_) (wanted_un rfl) ?_ ?_
                rotate_left
                · go_simp
                  try with_reducible rfl
                try simp only [Act.put, List.setIfInBounds_toArray, List.set_cons_zero, List.set_cons_succ]
              refine seq_done ?_
              go_wp2_with fail
              go_meet
              exact ⟨by rw [← HB1.out]; simp, by first | exact ⟨0, rfl⟩ | exact ⟨_, rfl⟩ | exact ⟨_, World.drewN_drewN _ _ _⟩⟩
            iterate 5
              refine seq_skip (wanted_no rfl rfl rfl rfl) ?_
              try simp only [Act.put, List.setIfInBounds_toArray, List.set_cons_zero, List.set_cons_succ]
            iterate 2
              refine seq_take (v := ?_) (wanted_un rfl) ?_ ?_
              rotate_left
              · go_simp
                try with_reducible rfl
              try simp only [Act.put, List.setIfInBounds_toArray, List.set_cons_zero, List.set_cons_succ]
            iterate 5
              refine seq_skip (wanted_no rfl rfl rfl rfl) ?_
              try simp only [Act.put, List.setIfInBounds_toArray, List.set_cons_zero, List.set_cons_succ]
            iterate 2
              refine seq_take (v := ?_) (wanted_un rfl) ?_ ?_
              rotate_left
              · go_simp
                try with_reducible rfl
              try simp only [Act.put, List.setIfInBounds_toArray, List.set_cons_zero, List.set_cons_succ]
            iterate 6
              refine seq_skip (wanted_no rfl rfl rfl rfl) ?_
              try simp only [Act.put, List.setIfInBounds_toArray, List.set_cons_zero, List.set_cons_succ]
            iterate 2
              refine seq_take (v := ?_) (wanted_un rfl) ?_ ?_
              rotate_left
              · go_simp
                try with_reducible rfl
              try simp only [Act.put, List.setIfInBounds_toArray, List.set_cons_zero, List.set_cons_succ]
            iterate 6
              refine seq_skip (wanted_no rfl rfl rfl rfl) ?_
              try simp only [Act.put, List.setIfInBounds_toArray, List.set_cons_zero, List.set_cons_succ]
            iterate 2
              refine seq_take (v := ?_) (wanted_un rfl) ?_ ?_
              rotate_left
              · go_simp
                try with_reducible rfl
              try simp only [Act.put, List.setIfInBounds_toArray, List.set_cons_zero, List.set_cons_succ]
            iterate 7
              refine seq_skip (wanted_no rfl rfl rfl rfl) ?_
              try simp only [Act.put, List.setIfInBounds_toArray, List.set_cons_zero, List.set_cons_succ]
            iterate 1
              refine seq_take (v := ?_) (wanted_un rfl) ?_ ?_
              rotate_left
              · go_simp
                try with_reducible rfl
              try simp only [Act.put, List.setIfInBounds_toArray, List.set_cons_zero, List.set_cons_succ]
            refine seq_done ?_
            go_wp2_with fail
            go_meet
            exact ⟨by rw [← HB1.out]; simp, by first | exact ⟨0, rfl⟩ | exact ⟨_, rfl⟩ | exact ⟨_, World.drewN_drewN _ _ _⟩⟩
          iterate 5
            refine seq_skip (wanted_no rfl rfl rfl rfl) ?_
            try simp only [Act.put, List.setIfInBounds_toArray, List.set_cons_zero, List.set_cons_succ]
          iterate 2
            refine seq_take (v := ?_) (wanted_un rfl) ?_ ?_
            rotate_left
            · go_simp
              try with_reducible rfl
            try simp only [Act.put, List.setIfInBounds_toArray, List.set_cons_zero, List.set_cons_succ]
          iterate 5
            refine seq_skip (wanted_no rfl rfl rfl rfl) ?_
            try simp only [Act.put, List.setIfInBounds_toArray, List.set_cons_zero, List.set_cons_succ]
          iterate 2
            refine seq_take (v := ?_) (wanted_un rfl) ?_ ?_
            rotate_left
            · go_simp
              try with_reducible rfl
            try simp only [Act.put, List.setIfInBounds_toArray, List.set_cons_zero, List.set_cons_succ]
          iterate 5
            refine seq_skip (wanted_no rfl rfl rfl rfl) ?_
            try simp only [Act.put, List.setIfInBounds_toArray, List.set_cons_zero, List.set_cons_succ]
          iterate 2
            refine seq_take (v := ?_) (wanted_un rfl) ?_ ?_
            rotate_left
            · go_simp
              try with_reducible rfl
            try simp only [Act.put, List.setIfInBounds_toArray, List.set_cons_zero, List.set_cons_succ]
          iterate 6
            refine seq_skip (wanted_no rfl rfl rfl rfl) ?_
            try simp only [Act.put, List.setIfInBounds_toArray, List.set_cons_zero, List.set_cons_succ]
          iterate 2
            refine seq_take (v := ?_) (wanted_un rfl) ?_ ?_
            rotate_left
            · go_simp
              try with_reducible rfl
            try simp only [Act.put, List.setIfInBounds_toArray, List.set_cons_zero, List.set_cons_succ]
          iterate 6
            refine seq_skip (wanted_no rfl rfl rfl rfl) ?_
            try simp only [Act.put, List.setIfInBounds_toArray, List.set_cons_zero, List.set_cons_succ]
          iterate 2
            refine seq_take (v := ?_) (wanted_un rfl) ?_ ?_
            rotate_left
            · go_simp
              try with_reducible rfl
            try simp only [Act.put, List.setIfInBounds_toArray, List.set_cons_zero, List.set_cons_succ]
          iterate 7
            refine seq_skip (wanted_no rfl rfl rfl rfl) ?_
            try simp only [Act.put, List.setIfInBounds_toArray, List.set_cons_zero, List.set_cons_succ]
          iterate 1
            refine seq_take (v := ?_) (wanted_un rfl) ?_ ?_
            rotate_left
            · go_simp
              try with_reducible rfl
            try simp only [Act.put, List.setIfInBounds_toArray, List.set_cons_zero, List.set_cons_succ]
          refine seq_done ?_
          go_wp2_with fail
          go_meet
          exact ⟨by rw [← HB1.out]; simp, by first | exact ⟨0, rfl⟩ | exact ⟨_, rfl⟩ | exact ⟨_, World.drewN_drewN _ _ _⟩⟩
        iterate 5
          refine seq_skip (wanted_no rfl rfl rfl rfl) ?_
          try simp only [Act.put, List.setIfInBounds_toArray, List.set_cons_zero, List.set_cons_succ]
        iterate 2
          refine seq_take (v := ?_) (wanted_un rfl) ?_ ?_
          rotate_left
          · go_simp
            try with_reducible rfl
          try simp only [Act.put, List.setIfInBounds_toArray, List.set_cons_zero, List.set_cons_succ]
        iterate 5
          refine seq_skip (wanted_no rfl rfl rfl rfl) ?_
          try simp only [Act.put, List.setIfInBounds_toArray, List.set_cons_zero, List.set_cons_succ]
        iterate 2
          refine seq_take (v := ?_) (wanted_un rfl) ?_ ?_
          rotate_left
          · go_simp
            try with_reducible rfl
          try simp only [Act.put, List.setIfInBounds_toArray, List.set_cons_zero, List.set_cons_succ]
        iterate 5
          refine seq_skip (wanted_no rfl rfl rfl rfl) ?_
          try simp only [Act.put, List.setIfInBounds_toArray, List.set_cons_zero, List.set_cons_succ]
        iterate 2
          refine seq_take (v := ?_) (wanted_un rfl) ?_ ?_
          rotate_left
          · go_simp
            try with_reducible rfl
          try simp only [Act.put, List.setIfInBounds_toArray, List.set_cons_zero, List.set_cons_succ]
        iterate 5
          refine seq_skip (wanted_no rfl rfl rfl rfl) ?_
          try simp only [Act.put, List.setIfInBounds_toArray, List.set_cons_zero, List.set_cons_succ]
        iterate 2
          refine seq_take (v := ?_) (wanted_un rfl) ?_ ?_
          rotate_left
          · go_simp
            try with_reducible rfl
          try simp only [Act.put, List.setIfInBounds_toArray, List.set_cons_zero, List.set_cons_succ]
        iterate 6
          refine seq_skip (wanted_no rfl rfl rfl rfl) ?_
          try simp only [Act.put, List.setIfInBounds_toArray, List.set_cons_zero, List.set_cons_succ]
        iterate 2
          refine seq_take (v := ?_) (wanted_un rfl) ?_ ?_
          rotate_left
          · go_simp
            try with_reducible rfl
          try simp only [Act.put, List.setIfInBounds_toArray, List.set_cons_zero, List.set_cons_succ]
        iterate 6
          refine seq_skip (wanted_no rfl rfl rfl rfl) ?_
          try simp only [Act.put, List.setIfInBounds_toArray, List.set_cons_zero, List.set_cons_succ]
        iterate 2
          refine seq_take (v := ?_) (wanted_un rfl) ?_ ?_
          rotate_left
          · go_simp
            try with_reducible rfl
          try simp only [Act.put, List.setIfInBounds_toArray, List.set_cons_zero, List.set_cons_succ]
        iterate 7
          refine seq_skip (wanted_no rfl rfl rfl rfl) ?_
          try simp only [Act.put, List.setIfInBounds_toArray, List.set_cons_zero, List.set_cons_succ]
        iterate 1
          refine seq_take (v := ?_) (wanted_un rfl) ?_ ?_
          rotate_left
          · go_simp
            try with_reducible rfl
          try simp only [Act.put, List.setIfInBounds_toArray, List.set_cons_zero, List.set_cons_succ]
        refine seq_done ?_
        go_wp2_with fail
        go_meet
        exact ⟨by rw [← HB1.out]; simp, by first | exact ⟨0, rfl⟩ | exact ⟨_, rfl⟩ | exact ⟨_, World.drewN_drewN _ _ _⟩⟩
      iterate 5
        refine seq_skip (wanted_no rfl rfl rfl rfl) ?_
        try simp only [Act.put, List.setIfInBounds_toArray, List.set_cons_zero, List.set_cons_succ]
      iterate 2
        refine seq_take (v := ?_) (wanted_un rfl) ?_ ?_
        rotate_left
        · go_simp
          try with_reducible rfl
        try simp only [Act.put, List.setIfInBounds_toArray, List.set_cons_zero, List.set_cons_succ]
      iterate 5
        refine seq_skip (wanted_no rfl rfl rfl rfl) ?_
        try simp only [Act.put, List.setIfInBounds_toArray, List.set_cons_zero, List.set_cons_succ]
      iterate 2
        refine seq_take (v := ?_) (wanted_un rfl) ?_ ?_
        rotate_left
        · go_simp
          try with_reducible rfl
        try simp only [Act.put, List.setIfInBounds_toArray, List.set_cons_zero, List.set_cons_succ]
      iterate 5
        refine seq_skip (wanted_no rfl rfl rfl rfl) ?_
        try simp only [Act.put, List.setIfInBounds_toArray, List.set_cons_zero, List.set_cons_succ]
      iterate 2
        refine seq_take (v := ?_) (wanted_un rfl) ?_ ?_
        rotate_left
        · go_simp
          try with_reducible rfl
        try simp only [Act.put, List.setIfInBounds_toArray, List.set_cons_zero, List.set_cons_succ]
      iterate 5
        refine seq_skip (wanted_no rfl rfl rfl rfl) ?_
        try simp only [Act.put, List.setIfInBounds_toArray, List.set_cons_zero, List.set_cons_succ]
      iterate 2
        refine seq_take (v := ?_) (wanted_un rfl) ?_ ?_
        rotate_left
        · go_simp
          try with_reducible rfl
        try simp only [Act.put, List.setIfInBounds_toArray, List.set_cons_zero, List.set_cons_succ]
      iterate 5
        refine seq_skip (wanted_no rfl rfl rfl rfl) ?_
        try simp only [Act.put, List.setIfInBounds_toArray, List.set_cons_zero, List.set_cons_succ]
      iterate 2
        refine seq_take (v := ?_) (wanted_un rfl) ?_ ?_
        rotate_left
        · go_simp
          try with_reducible rfl
        try simp only [Act.put, List.setIfInBounds_toArray, List.set_cons_zero, List.set_cons_succ]
      iterate 6
        refine seq_skip (wanted_no rfl rfl rfl rfl) ?_
        try simp only [Act.put, List.setIfInBounds_toArray, List.set_cons_zero, List.set_cons_succ]
      iterate 2
        refine seq_take (v := ?_) (wanted_un rfl) ?_ ?_
        rotate_left
        · go_simp
          try with_reducible rfl
        try simp only [Act.put, List.setIfInBounds_toArray, List.set_cons_zero, List.set_cons_succ]
      iterate 6
        refine seq_skip (wanted_no rfl rfl rfl rfl) ?_
        try simp only [Act.put, List.setIfInBounds_toArray, List.set_cons_zero, List.set_cons_succ]
      iterate 2
        refine seq_take (v := ?_) (wanted_un rfl) ?_ ?_
        rotate_left
        · go_simp
          try with_reducible rfl
        try simp only [Act.put, List.setIfInBounds_toArray, List.set_cons_zero, List.set_cons_succ]
      iterate 7
        refine seq_skip (wanted_no rfl rfl rfl rfl) ?_
        try simp only [Act.put, List.setIfInBounds_toArray, List.set_cons_zero, List.set_cons_succ]
      iterate 1
        refine seq_take (v := ?_) (wanted_un rfl) ?_ ?_
        rotate_left
        · go_simp
          try with_reducible rfl
        try simp only [Act.put, List.setIfInBounds_toArray, List.set_cons_zero, List.set_cons_succ]
      refine seq_done ?_
      go_wp2_with fail
      go_meet
      exact ⟨by rw [← HB1.out]; simp, by first | exact ⟨0, rfl⟩ | exact ⟨_, rfl⟩ | exact ⟨_, World.drewN_drewN _ _ _⟩⟩
    iterate 5
      refine seq_skip (wanted_no rfl rfl rfl rfl) ?_
      try simp only [Act.put, List.setIfInBounds_toArray, List.set_cons_zero, List.set_cons_succ]
    iterate 2
      refine seq_take (v := ?_) (wanted_un rfl) ?_ ?_
      rotate_left
      · go_simp
        try with_reducible rfl
      try simp only [Act.put, List.setIfInBounds_toArray, List.set_cons_zero, List.set_cons_succ]
    iterate 5
      refine seq_skip (wanted_no rfl rfl rfl rfl) ?_
      try simp only [Act.put, List.setIfInBounds_toArray, List.set_cons_zero, List.set_cons_succ]
    iterate 2
      refine seq_take (v := ?_) (wanted_un rfl) ?_ ?_
      rotate_left
      · go_simp
        try with_reducible rfl
      try simp only [Act.put, List.setIfInBounds_toArray, List.set_cons_zero, List.set_cons_succ]
    iterate 5
      refine seq_skip (wanted_no rfl rfl rfl rfl) ?_
      try simp only [Act.put, List.setIfInBounds_toArray, List.set_cons_zero, List.set_cons_succ]
    iterate 2
      refine seq_take (v := ?_) (wanted_un rfl) ?_ ?_
      rotate_left
      · go_simp
        try with_reducible rfl
      try simp only [Act.put, List.setIfInBounds_toArray, List.set_cons_zero, List.set_cons_succ]
    iterate 5
      refine seq_skip (wanted_no rfl rfl rfl rfl) ?_
      try simp only [Act.put, List.setIfInBounds_toArray, List.set_cons_zero, List.set_cons_succ]
    iterate 2
      refine seq_take (v := ?_) (wanted_un rfl) ?_ ?_
      rotate_left
      · go_simp
        try with_reducible rfl
      try simp only [Act.put, List.setIfInBounds_toArray, List.set_cons_zero, List.set_cons_succ]
    iterate 5
      refine seq_skip (wanted_no rfl rfl rfl rfl) ?_
      try simp only [Act.put, List.setIfInBounds_toArray, List.set_cons_zero, List.set_cons_succ]
    iterate 2
      refine seq_take (v := ?_) (wanted_un rfl) ?_ ?_
      rotate_left
      · go_simp
        try with_reducible rfl
      try simp only [Act.put, List.setIfInBounds_toArray, List.set_cons_zero, List.set_cons_succ]
    iterate 5
      refine seq_skip (wanted_no rfl rfl rfl rfl) ?_
      try simp only [Act.put, List.setIfInBounds_toArray, List.set_cons_zero, List.set_cons_succ]
    iterate 2
      refine seq_take (v := ?_) (wanted_un rfl) ?_ ?_
      rotate_left
      · go_simp
        try with_reducible rfl
      try simp only [Act.put, List.setIfInBounds_toArray, List.set_cons_zero, List.set_cons_succ]
    iterate 6
      refine seq_skip (wanted_no rfl rfl rfl rfl) ?_
      try simp only [Act.put, List.setIfInBounds_toArray, List.set_cons_zero, List.set_cons_succ]
    iterate 2
      refine seq_take (v := ?_) (wanted_un rfl) ?_ ?_
      rotate_left
      · go_simp
        try with_reducible rfl
      try simp only [Act.put, List.setIfInBounds_toArray, List.set_cons_zero, List.set_cons_succ]
    iterate 6
      refine seq_skip (wanted_no rfl rfl rfl rfl) ?_
      try simp only [Act.put, List.setIfInBounds_toArray, List.set_cons_zero, List.set_cons_succ]
    iterate 2
      refine seq_take (v := ?_) (wanted_un rfl) ?_ ?_
      rotate_left
      · go_simp
        try with_reducible rfl
      try simp only [Act.put, List.setIfInBounds_toArray, List.set_cons_zero, List.set_cons_succ]
    iterate 7
      refine seq_skip (wanted_no rfl rfl rfl rfl) ?_
      try simp only [Act.put, List.setIfInBounds_toArray, List.set_cons_zero, List.set_cons_succ]
    iterate 1
      refine seq_take (v := ?_) (wanted_un rfl) ?_ ?_
      rotate_left
      · go_simp
        try with_reducible rfl
      try simp only [Act.put, List.setIfInBounds_toArray, List.set_cons_zero, List.set_cons_succ]
    refine seq_done ?_
    go_wp2_with fail
    go_meet
    exact ⟨by rw [← HB1.out]; simp, by first | exact ⟨0, rfl⟩ | exact ⟨_, rfl⟩ | exact ⟨_, World.drewN_drewN _ _ _⟩⟩
  case rest =>
    obtain ⟨rfl, q, hwc⟩ := hcut
    subst hwc
    clear d0 d1 d2 d3 d4 d5 d6 d7 d8 d9 d10 d11 d12 d13 f0 f1 f2 f3 f4 f5 f6 f7 f8 f9 f10 f11 f12 f13 hu hv hb ht ho hz hs hw2 nu nv nb nt no nz ns htl nl EN EF
    cases b1
    · have HN : Hid (TT = false) := Lib.hid (by
        have h1 := HB1.out
        have h2 := HTT.out
        cases tl
        · rw [HTX.out rfl] at h2
          rw [← h2]; simp
        · cases tx
          · rw [← h2]; simp
          · rw [← h2]; exact h1)
      rw [show (!false) = true from rfl]
      go_wp2
      go_ret
      exact ⟨ret_bool HN.out.symm, below_drewN B2.out _⟩
    · have HN : Hid (TT = tx ∧ n3_ = n3') := Lib.hid (by
        have h1 := HB1.out
        have h2 := HTT.out
        simp only [Bool.and_eq_true] at h1
        obtain ⟨⟨rfl, rfl, rfl, rfl, rfl, rfl, rfl⟩, rfl, rfl, rfl⟩ := h1
        refine ⟨by rw [← h2]; simp, ?_⟩
        have h3 := HTL.out
        rw [beq_iff_eq] at h3
        omega)
      obtain rfl := HN.out.2
      clear HB1 HTL HTX
      rw [show (!true) = false from rfl]
      go_wp2
      go_loopw [5] (fun i wr => ∃ k q : Nat, k ≤ n3_ ∧ i = .int .i64 k ∧ X.take k = Y.take k ∧ wr = w2.drewN q) (fun i _ => n3_ - (intOf i).toNat)
      case atStart => exact ⟨0, _, by omega, rfl, rfl, rfl⟩
      case round =>
        obtain ⟨k, q, hk, rfl, ht, rfl⟩ := hrel
        have HT := Lib.hid ht
        clear ht
        by_cases hlt : k < n3_
        · obtain ⟨x, hx⟩ : ∃ x, X[k]? = some x := ⟨_, List.getElem?_eq_getElem (by rw [L1.out]; exact hlt)⟩
          obtain ⟨y, hy⟩ : ∃ y, Y[k]? = some y := ⟨_, List.getElem?_eq_getElem (by rw [L2.out]; exact hlt)⟩
          obtain ⟨b1, o1, rfl, _, v1, v2⟩ := ext_at (HX.out.below B2.out) hx
          obtain ⟨b2, o2, rfl, _, v3, v4⟩ := ext_at (HY.out.below B2.out) hy
          have ltI : (k : Int) < (n3_ : Int) := by omega
          have NE : ∀ w, (binOp .neq 60 (.agg #[.int .i64 x.1, .int .i64 x.2]) (.agg #[.int .i64 y.1, .int .i64 y.2])).run Tryd.prog w = .ok (.bool (!decide (x = y))) w := fun w => by
            have e : ((x.1 == y.1) && (x.2 == y.2)) = decide (x = y) := by rw [Bool.eq_iff_iff]; simp [Prod.ext_iff]
            rw [← e]
            exact neq_of_eql (ext_eql _ _ _ _ w)
          obtain ⟨x1, hx1⟩ : ∃ a, x.1 = a := ⟨_, rfl⟩
          obtain ⟨x2, hx2⟩ : ∃ a, x.2 = a := ⟨_, rfl⟩
          obtain ⟨y1, hy1⟩ : ∃ a, y.1 = a := ⟨_, rfl⟩
          obtain ⟨y2, hy2⟩ : ∃ a, y.2 = a := ⟨_, rfl⟩
          rw [hx1] at NE v1
          rw [hx2] at NE v2
          rw [hy1] at NE v3
          rw [hy2] at NE v4
          clear hx1 hx2 hy1 hy2
          have d14 := HR1.out.cell (j := 14) rfl
          have f14 := HR2.out.cell (j := 14) rfl
          by_cases hxy : x = y
          · rw [decide_eq_true hxy, Bool.not_true] at NE
            have HM := Lib.hid (snoc_take (by rw [← hxy]; exact hx : X[k]? = some y) hy HT.out)
            clear hx hy hxy
            go_wp2
            go_quiet (fail)
            go_wp2
            go_roundw
            case rel => exact ⟨k + 1, _, by omega, by go_num, HM.out, rfl⟩
            case measure => simp [intOf]; omega
          · rw [decide_eq_false hxy, Bool.not_false] at NE
            have e0 := HXX.out.symm.trans (beq_eq_false_iff_ne.2 (apart_at hx hy hxy))
            subst e0
            clear hx hy hxy
            go_wp2
            go_quiet (fail)
            go_wp2
            go_ret
            exact ⟨ret_bool HN.out.1.symm, below_drewN (below_drewN B2.out _) _⟩
        · obtain rfl : n3_ = k := by omega
          have e0 := HXX.out.symm.trans (beq_iff_eq.2 (all_take L1.out L2.out HT.out))
          subst e0
          have d14 := HR1.out.cell (j := 14) rfl
          clear hlt
          go_wp2
          go_ret
          exact ⟨ret_bool HN.out.1.symm, below_drewN B2.out _⟩
end Go.Proofs.YtkodeeneljkgeaaDoor
