/- Layer 5's laws: TargetOf, walked. Condition: the world's shape. -/
import Derived.Test.YtaddefjkjlkjnaaDoorLaw05b
namespace Go.Proofs.YtaddefjkjlkjnaaDoor
open Go.RowKit IH
set_option maxRecDepth 100000
set_option maxHeartbeats 32000000 in
theorem tof_walk (w : World) (hsh : w.ShapedOpen Tryd.prog) (s : ByteArray) (_hs : s.size ≤ maxLen) (t : ByteArray) (_ht : t.size ≤ maxLen) (H : ByteArray) (n : Int) (Q : ByteArray) (_wH : H.size ≤ maxLen) (wn : (Lit.int .i64 n).wf = true) (_wQ : Q.size ≤ maxLen) :
    Calls Tryd.prog 12 #[.string s, .string t, .agg #[.string H, .int .i64 n, .string Q]] w fun e w' => e = .returned (.bool true) ∧ Below w.heap.size w w' := by
  obtain ⟨n0, n1⟩ := bounds_i64 wn
  obtain ⟨w1, hw1⟩ : ∃ W, w.alloc (.cells #[.string H, .int .i64 n, .string Q] 63) = W := ⟨_, rfl⟩
  obtain ⟨g2, hg2⟩ : ∃ g, w.heap.size = g := ⟨_, rfl⟩
  have hlt24 : g2 < w1.heap.size := by rw [← hg2, ← hw1]; simp
  have BR : Hid (Below w1.heap.size w1 w1) := Lib.hid (Below.refl _ _)
  have BX := Lib.hid (fun (W : World) (hW : Below w1.heap.size w1 W) => (show Below g2 w W from by rw [← hg2]; exact (((Below.refl w.heap.size w).alloc (Nat.le_refl _) _).trans ((by rw [hw1, hg2]; exact hW.mono (by omega))))))
  have UX := Lib.hid (fun (W : World) (hW : Below w1.heap.size w1 W) => (show RowAt W g2 63 [.string H, .int .i64 n, .string Q] from (by have := RowAt.new w 63 [.string H, .int .i64 n, .string Q]; rw [hg2] at this; rw [show ([.string H, .int .i64 n, .string Q] : List Value).toArray = #[.string H, .int .i64 n, .string Q] from rfl, hw1] at this; exact this.below hW hlt24)))
  have AW := Lib.hid (fun (W : World) (hW : Below g2 w W) => awake05_any W (shaped_below hsh (by rw [hg2]; exact hW)))
  rw [hg2]
  have V0 := UX.out _ BR.out
  have u0 := V0.cell (j := 0) rfl
  have u1 := V0.cell (j := 1) rfl
  have u2 := V0.cell (j := 2) rfl
  clear V0
  by_cases hh0 : 9000 < s.size
  · have hI0 : (9000 : Int) < (s.size : Int) := by omega
    clear hsh
    go_enter Tryd.func12, Tryd.ntmps12
    go_wp2_with (first
      | (go_at_call 36; refine (AW.out _ (BX.out _ BR.out)).mono ?_; rintro e w2 ⟨rfl, hb2⟩; have B2 := Lib.hid (below_step BR.out hb2); clear hb2 u0 u1 u2; have V0 := UX.out _ B2.out; have u0 := V0.cell (j := 0) rfl; have u1 := V0.cell (j := 1) rfl; have u2 := V0.cell (j := 2) rfl; clear V0)
      | (go_at_call 36; refine (AW.out _ (BX.out _ B2.out)).mono ?_; rintro e w3 ⟨rfl, hb3⟩; have B3 := Lib.hid (below_step B2.out hb3); clear hb3))
    go_ret
    exact ⟨rfl, BX.out _ B3.out⟩
  · skip
    by_cases hh1 : 9000 < t.size
    · have hI0 : ¬ ((9000 : Int) < (s.size : Int)) := by omega
      have hI1 : (9000 : Int) < (t.size : Int) := by omega
      clear hsh
      go_enter Tryd.func12, Tryd.ntmps12
      go_wp2_with (first
        | (go_at_call 36; refine (AW.out _ (BX.out _ BR.out)).mono ?_; rintro e w2 ⟨rfl, hb2⟩; have B2 := Lib.hid (below_step BR.out hb2); clear hb2 u0 u1 u2; have V0 := UX.out _ B2.out; have u0 := V0.cell (j := 0) rfl; have u1 := V0.cell (j := 1) rfl; have u2 := V0.cell (j := 2) rfl; clear V0)
        | (go_at_call 36; refine (AW.out _ (BX.out _ B2.out)).mono ?_; rintro e w3 ⟨rfl, hb3⟩; have B3 := Lib.hid (below_step B2.out hb3); clear hb3))
      go_ret
      exact ⟨rfl, BX.out _ B3.out⟩
    · skip
      by_cases hh2 : 1000 < H.size
      · have hI0 : ¬ ((9000 : Int) < (s.size : Int)) := by omega
        have hI1 : ¬ ((9000 : Int) < (t.size : Int)) := by omega
        have hI2 : (1000 : Int) < (H.size : Int) := by omega
        clear hsh
        go_enter Tryd.func12, Tryd.ntmps12
        go_wp2_with (first
          | (go_at_call 36; refine (AW.out _ (BX.out _ BR.out)).mono ?_; rintro e w2 ⟨rfl, hb2⟩; have B2 := Lib.hid (below_step BR.out hb2); clear hb2 u0 u1 u2; have V0 := UX.out _ B2.out; have u0 := V0.cell (j := 0) rfl; have u1 := V0.cell (j := 1) rfl; have u2 := V0.cell (j := 2) rfl; clear V0)
          | (go_at_call 36; refine (AW.out _ (BX.out _ B2.out)).mono ?_; rintro e w3 ⟨rfl, hb3⟩; have B3 := Lib.hid (below_step B2.out hb3); clear hb3))
        go_ret
        exact ⟨rfl, BX.out _ B3.out⟩
      · skip
        by_cases hh3 : 2000 < Q.size
        · have hI0 : ¬ ((9000 : Int) < (s.size : Int)) := by omega
          have hI1 : ¬ ((9000 : Int) < (t.size : Int)) := by omega
          have hI2 : ¬ ((1000 : Int) < (H.size : Int)) := by omega
          have hI3 : (2000 : Int) < (Q.size : Int) := by omega
          clear hsh
          go_enter Tryd.func12, Tryd.ntmps12
          go_wp2_with (first
            | (go_at_call 36; refine (AW.out _ (BX.out _ BR.out)).mono ?_; rintro e w2 ⟨rfl, hb2⟩; have B2 := Lib.hid (below_step BR.out hb2); clear hb2 u0 u1 u2; have V0 := UX.out _ B2.out; have u0 := V0.cell (j := 0) rfl; have u1 := V0.cell (j := 1) rfl; have u2 := V0.cell (j := 2) rfl; clear V0)
            | (go_at_call 36; refine (AW.out _ (BX.out _ B2.out)).mono ?_; rintro e w3 ⟨rfl, hb3⟩; have B3 := Lib.hid (below_step B2.out hb3); clear hb3))
          go_ret
          exact ⟨rfl, BX.out _ B3.out⟩
        · skip
          have hI0 : ¬ ((9000 : Int) < (s.size : Int)) := by omega
          have hI1 : ¬ ((9000 : Int) < (t.size : Int)) := by omega
          have hI2 : ¬ ((1000 : Int) < (H.size : Int)) := by omega
          have hI3 : ¬ ((2000 : Int) < (Q.size : Int)) := by omega
          have PA := fun (W : World) (hW : Below g2 w W) => of5_any s t (by omega) (by omega) W (shaped_below hsh (by rw [hg2]; exact hW))
          have PB := fun (W : World) => refOf5_any s t (by omega) (by omega) W
          obtain ⟨J, hJ⟩ : ∃ J, ofU s.data.toList t.data.toList = J := ⟨_, rfl⟩
          rw [hJ] at PA PB
          obtain ⟨JU, JE⟩ := J
          simp only [uriC] at PA PB
          have EQ := fun W => uri_eql ⟨JU.host.toArray⟩ JU.port ⟨JU.path.toArray⟩ ⟨JU.host.toArray⟩ JU.port ⟨JU.path.toArray⟩ W
          rw [decide_eq_true ⟨rfl, rfl, rfl⟩] at EQ
          have ej : (JE == JE) = true := by simp
          have P1 := fun W => print5_any H n Q (by omega) (by omega) n0 n1 W
          have P2 := fun W => refPrint5_any H n Q (by omega) (by omega) n0 n1 W
          obtain ⟨T, hT⟩ : ∃ T : ByteArray, (⟨(printU ⟨H.data.toList, n, Q.data.toList⟩).toArray⟩ : ByteArray) = T := ⟨_, rfl⟩
          rw [hT] at P1 P2
          have R1 := fun (W : World) (hW : Below g2 w W) => right5_any H n Q (by omega) (by omega) n0 n1 W (shaped_below hsh (by rw [hg2]; exact hW))
          have R2 := fun W => refRight5_any H n Q (by omega) (by omega) n0 n1 W
          obtain ⟨r, hr⟩ : ∃ r, rightU ⟨H.data.toList, n, Q.data.toList⟩ = r := ⟨_, rfl⟩
          rw [hr] at R1 R2
          have et : (T.toList == T.toList) = true := by simp
          have er : (r == r) = true := by simp
          replace PA := Lib.hid PA
          replace PB := Lib.hid PB
          replace P1 := Lib.hid P1
          replace P2 := Lib.hid P2
          replace R1 := Lib.hid R1
          replace R2 := Lib.hid R2
          clear hsh hJ hT hr hh0 hh1 hh2 hh3
          go_enter Tryd.func12, Tryd.ntmps12
          go_upto_region 3 with (go_at_call 36; refine (AW.out _ (BX.out _ BR.out)).mono ?_; rintro e w2 ⟨rfl, hb2⟩; have B2 := Lib.hid (below_step BR.out hb2); clear hb2 u0 u1 u2; have V0 := UX.out _ B2.out; have u0 := V0.cell (j := 0) rfl; have u1 := V0.cell (j := 1) rfl; have u2 := V0.cell (j := 2) rfl; clear V0)
          clear BR
          go_upto_region 5 with (first
            | (go_at_call 42; refine (PA.out _ (BX.out _ B2.out)).mono ?_; rintro e w3 ⟨rfl, hb3⟩; have B3 := Lib.hid (below_step B2.out hb3); clear hb3 u0 u1 u2; obtain ⟨g1, hg1⟩ : ∃ g, w3.heap.size = g := ⟨_, rfl⟩; obtain ⟨w4, hw4⟩ : ∃ V, w3.alloc (.cells zeroC.toArray 63) = V := ⟨_, rfl⟩; have Z1 : Hid (RowAt w4 g1 63 zeroC) := Lib.hid (by rw [← hw4, ← hg1]; exact RowAt.new w3 _ _); have N1 : Hid (Res g1 w3 w4) := Lib.hid (by rw [← hw4, ← hg1]; exact Res.start w3); rw [show zeroC.toArray = #[.string ⟨#[]⟩, .int .i64 0, .string ⟨#[]⟩] from rfl] at hw4)
            | (refine wpList_store_row rfl 63 _ _ rfl g1 63 [.string ⟨JU.host.toArray⟩, .int .i64 JU.port, .string ⟨JU.path.toArray⟩] zeroC rfl rfl Z1.out rfl (by kernel_rfl) uri_one ?_; intro w5 hq5 ho5; have Q5 := Lib.hid hq5; have N5 := Lib.hid (N1.out.stored ho5 hq5 rfl); have B5 := Lib.hid (below_step B3.out (by rw [hg1]; exact N5.out.below)); clear Z1 N1 ho5 hq5 hg1 hw4)
            | (go_at_call 43; refine (PB.out _).mono ?_; rintro e w6 ⟨rfl, hb6⟩; have B6 := Lib.hid (below_step B5.out hb6); have Q6 := Lib.hid (Q5.out.below hb6 Q5.out.lt); clear hb6; obtain ⟨g7, hg7⟩ : ∃ g, w6.heap.size = g := ⟨_, rfl⟩; obtain ⟨w7, hw7⟩ : ∃ V, w6.alloc (.cells zeroC.toArray 63) = V := ⟨_, rfl⟩; have Z2 : Hid (RowAt w7 g7 63 zeroC) := Lib.hid (by rw [← hw7, ← hg7]; exact RowAt.new w6 _ _); have N2 : Hid (Res g7 w6 w7) := Lib.hid (by rw [← hw7, ← hg7]; exact Res.start w6); rw [show zeroC.toArray = #[.string ⟨#[]⟩, .int .i64 0, .string ⟨#[]⟩] from rfl] at hw7)
            | (refine wpList_store_row rfl 63 _ _ rfl g7 63 [.string ⟨JU.host.toArray⟩, .int .i64 JU.port, .string ⟨JU.path.toArray⟩] zeroC rfl rfl Z2.out rfl (by kernel_rfl) uri_one ?_; intro w8 hq8 ho8; have Q8 := Lib.hid (Q6.out.below (by rw [hg7]; exact (N2.out.stored ho8 hq8 rfl).below) Q6.out.lt); have B8 := Lib.hid (below_step B6.out (by rw [hg7]; exact (N2.out.stored ho8 hq8 rfl).below)); have QQ8 := Lib.hid hq8; clear ho8 hq8 hg7 hw7 Z2 N2 Q6))
          refine wp_region_plan (fun W => Below w1.heap.size w1 W ∧ RowAt W g1 63 [.string ⟨JU.host.toArray⟩, .int .i64 JU.port, .string ⟨JU.path.toArray⟩] ∧ RowAt W g7 63 [.string ⟨JU.host.toArray⟩, .int .i64 JU.port, .string ⟨JU.path.toArray⟩]) [(0, true), (1, true), (2, true), (3, true), (4, true), (5, true), (6, true), (7, true), (8, true), (9, true), (11, true), (10, false), (12, false), (13, true), (14, true), (15, true), (16, true), (18, true), (17, false), (19, false), (20, true), (21, true), (22, true)] (by kernel_rfl) (by kernel_rfl) rfl (by kernel_rfl) (⟨below_drewN B8.out 1, Q8.out.below (below_drewN (Below.refl _ _) 1) Q8.out.lt, QQ8.out.below (below_drewN (Below.refl _ _) 1) QQ8.out.lt⟩) ?_
          intro w1 hH
          iterate 11
            refine plan_take (v := ?_) rfl (by rfl) ?_ ?_
            rotate_left
            · intro w2 hSw
              have V0 := UX.out _ hSw.1
              have z0 := V0.cell (j := 0) rfl
              have z1 := V0.cell (j := 1) rfl
              have z2 := V0.cell (j := 2) rfl
              have y0 := hSw.2.1.cell (j := 0) rfl
              have y1 := hSw.2.1.cell (j := 1) rfl
              have y2 := hSw.2.1.cell (j := 2) rfl
              have x0 := hSw.2.2.cell (j := 0) rfl
              have x1 := hSw.2.2.cell (j := 1) rfl
              have x2 := hSw.2.2.cell (j := 2) rfl
              clear V0
              clear hSw
              go_simp
              try with_reducible rfl
            try simp only [Act.put, List.setIfInBounds_toArray, List.set_cons_zero, List.set_cons_succ]
          refine plan_move rfl (by rfl) (fun K hK => ?_)
          go_simp
          (with_reducible refine (P1.out _).mono ?_)
          rintro e w9 ⟨rfl, hb9⟩
          refine hK.out _ _ (⟨below_step hH.out.1 hb9, hH.out.2.1.below hb9 hH.out.2.1.lt, hH.out.2.2.below hb9 hH.out.2.2.lt⟩) ?_
          clear hH hK hb9 K
          intro hH
          try simp only [Act.put, List.setIfInBounds_toArray, List.set_cons_zero, List.set_cons_succ]
          refine plan_move rfl (by rfl) (fun K hK => ?_)
          go_simp
          (with_reducible refine (P2.out _).mono ?_)
          rintro e w9 ⟨rfl, hb9⟩
          refine hK.out _ _ (⟨below_step hH.out.1 hb9, hH.out.2.1.below hb9 hH.out.2.1.lt, hH.out.2.2.below hb9 hH.out.2.2.lt⟩) ?_
          clear hH hK hb9 K
          intro hH
          try simp only [Act.put, List.setIfInBounds_toArray, List.set_cons_zero, List.set_cons_succ]
          iterate 5
            refine plan_take (v := ?_) rfl (by rfl) ?_ ?_
            rotate_left
            · intro w2 hSw
              have V0 := UX.out _ hSw.1
              have z0 := V0.cell (j := 0) rfl
              have z1 := V0.cell (j := 1) rfl
              have z2 := V0.cell (j := 2) rfl
              have y0 := hSw.2.1.cell (j := 0) rfl
              have y1 := hSw.2.1.cell (j := 1) rfl
              have y2 := hSw.2.1.cell (j := 2) rfl
              have x0 := hSw.2.2.cell (j := 0) rfl
              have x1 := hSw.2.2.cell (j := 1) rfl
              have x2 := hSw.2.2.cell (j := 2) rfl
              clear V0
              clear hSw
              go_simp
              try with_reducible rfl
            try simp only [Act.put, List.setIfInBounds_toArray, List.set_cons_zero, List.set_cons_succ]
          refine plan_move rfl (by rfl) (fun K hK => ?_)
          go_simp
          (with_reducible refine (R1.out _ (BX.out _ hH.out.1)).mono ?_)
          rintro e w9 ⟨rfl, hb9⟩
          refine hK.out _ _ (⟨below_step hH.out.1 hb9, hH.out.2.1.below hb9 hH.out.2.1.lt, hH.out.2.2.below hb9 hH.out.2.2.lt⟩) ?_
          clear hH hK hb9 K
          intro hH
          try simp only [Act.put, List.setIfInBounds_toArray, List.set_cons_zero, List.set_cons_succ]
          refine plan_move rfl (by rfl) (fun K hK => ?_)
          go_simp
          (with_reducible refine (R2.out _).mono ?_)
          rintro e w9 ⟨rfl, hb9⟩
          refine hK.out _ _ (⟨below_step hH.out.1 hb9, hH.out.2.1.below hb9 hH.out.2.1.lt, hH.out.2.2.below hb9 hH.out.2.2.lt⟩) ?_
          clear hH hK hb9 K
          intro hH
          try simp only [Act.put, List.setIfInBounds_toArray, List.set_cons_zero, List.set_cons_succ]
          iterate 3
            refine plan_take (v := ?_) rfl (by rfl) ?_ ?_
            rotate_left
            · intro w2 hSw
              have V0 := UX.out _ hSw.1
              have z0 := V0.cell (j := 0) rfl
              have z1 := V0.cell (j := 1) rfl
              have z2 := V0.cell (j := 2) rfl
              have y0 := hSw.2.1.cell (j := 0) rfl
              have y1 := hSw.2.1.cell (j := 1) rfl
              have y2 := hSw.2.1.cell (j := 2) rfl
              have x0 := hSw.2.2.cell (j := 0) rfl
              have x1 := hSw.2.2.cell (j := 1) rfl
              have x2 := hSw.2.2.cell (j := 2) rfl
              clear V0
              clear hSw
              go_simp
              try with_reducible rfl
            try simp only [Act.put, List.setIfInBounds_toArray, List.set_cons_zero, List.set_cons_succ]
          refine plan_done ?_
          have BE := Lib.hid (BX.out _ hH.out.1)
          clear hH
          go_wp2_with fail
          go_ret
          exact ⟨rfl, BE.out⟩
end Go.Proofs.YtaddefjkjlkjnaaDoor
