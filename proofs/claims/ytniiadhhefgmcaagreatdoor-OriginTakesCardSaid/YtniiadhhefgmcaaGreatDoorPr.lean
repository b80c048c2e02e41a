/- Pr: several texts, one behind the other. -/
import Derived.Test.YtniiadhhefgmcaaGreatDoorLz
import Derived.Test.YtniiadhhefgmcaaGreatDoorOz
import Derived.Test.YtniiadhhefgmcaaGreatDoorKt
import Derived.Test.YtniiadhhefgmcaaGreatDoorTe
import Derived.Test.YtniiadhhefgmcaaGreatDoorFie14
import Derived.Test.YtniiadhhefgmcaaGreatDoorSx
import Derived.Test.YtniiadhhefgmcaaGreatDoorCh
import Derived.Test.YtniiadhhefgmcaaGreatDoorFq
/- Walks of layer 6: a first line written, by the document. Condition: its texts within 10^9 octets, its numbers within int64. -/
namespace Go.Proofs.YtniiadhhefgmcaaGreatDoor
open Go.RowKit IH
set_option maxRecDepth 100000
structure StaB (s : Sta) : Prop where
  m : s.method.length ≤ 1000000000
  t : s.target.length ≤ 1000000000
  r : s.reason.length ≤ 1000000000
  s1 : s.status ≤ 9223372036854775807
  mi : s.minor ≤ 9223372036854775807
theorem StaB.sta {s : Sta} (h : StaB s) : StaS s := ⟨by have := h.m; omega, by have := h.t; omega, h.r⟩
theorem pN_len (n : Int) : (printN n 10).length ≤ 64 := digs_length _ _ _
set_option maxHeartbeats 8000000 in
theorem rprint6_any (s : Sta) (hs : StaB s) (w : World) :
    Calls Tryz.prog 38 #[.agg (staC s).toArray] w fun e w' => e = .returned (.string ⟨(printS s).toArray⟩) ∧ Below w.heap.size w w' := by
  have P1 := fun w => refPrint_any s.minor 10 hs.mi w
  have P2 := fun w => refPrint_any s.status 10 hs.s1 w
  have l1 := pN_len s.minor
  have l2 := pN_len s.status
  obtain ⟨A, hA⟩ : ∃ S : ByteArray, (⟨(printN s.minor 10).toArray⟩ : ByteArray) = S := ⟨_, rfl⟩
  obtain ⟨B, hB⟩ : ∃ S : ByteArray, (⟨(printN s.status 10).toArray⟩ : ByteArray) = S := ⟨_, rfl⟩
  rw [hA] at P1
  rw [hB] at P2
  have zA : A.size ≤ 64 := by rw [← hA, size_mk]; exact l1
  have zB : B.size ≤ 64 := by rw [← hB, size_mk]; exact l2
  obtain ⟨M, hM⟩ : ∃ M : ByteArray, (⟨s.method.toArray⟩ : ByteArray) = M := ⟨_, rfl⟩
  obtain ⟨T, hT⟩ : ∃ M : ByteArray, (⟨s.target.toArray⟩ : ByteArray) = M := ⟨_, rfl⟩
  obtain ⟨R, hR⟩ : ∃ M : ByteArray, (⟨s.reason.toArray⟩ : ByteArray) = M := ⟨_, rfl⟩
  have zM : M.size ≤ 1000000000 := by rw [← hM, size_mk]; exact hs.m
  have zT : T.size ≤ 1000000000 := by rw [← hT, size_mk]; exact hs.t
  have zR : R.size ≤ 1000000000 := by rw [← hR, size_mk]; exact hs.r
  have dM : M.data.toList = s.method := by rw [← hM]
  have dT : T.data.toList = s.target := by rw [← hT]
  have dR : R.data.toList = s.reason := by rw [← hR]
  have dA : A.data.toList = printN s.minor 10 := by rw [← hA]
  have dB : B.data.toList = printN s.status 10 := by rw [← hB]
  obtain ⟨OUT, hOUT⟩ : ∃ O, printS s = O := ⟨_, rfl⟩
  rw [hOUT]
  have HO := Lib.hid hOUT
  unfold staC
  rw [hM, hT, hR]
  have DM := Lib.hid dM
  have DT := Lib.hid dT
  have DR := Lib.hid dR
  have DA := Lib.hid dA
  have DB := Lib.hid dB
  obtain ⟨st, hst⟩ : ∃ x, s.status = x := ⟨_, rfl⟩
  obtain ⟨mi, hmi⟩ : ∃ x, s.minor = x := ⟨_, rfl⟩
  have HST := Lib.hid hst
  rw [hst] at P2
  rw [hmi] at P1
  rw [hst, hmi]
  have NW := Lib.hid (RowAt.new w 23 [.string M, .string T, .int .i64 st, .string R, .int .i64 mi])
  have NB := Lib.hid (below_al w (.cells #[.string M, .string T, .int .i64 st, .string R, .int .i64 mi] 23))
  replace P1 := Lib.hid P1
  replace P2 := Lib.hid P2
  clear hA hB hM hT hR dM dT dR dA dB hOUT hst hmi l1 l2 hs
  by_cases h0 : st = 0
  · have e0 : (st == 0) = true := by rw [beq_iff_eq]; exact h0
    have HP : Hid (OUT = s.method ++ 32 :: (s.target ++ 32 :: (http1 ++ printN s.minor 10 ++ [13, 10]))) := Lib.hid (by rw [← HO.out]; unfold printS; rw [if_pos (by rw [HST.out]; exact h0)])
    clear h0
    go_enter Tryz.func38, Tryz.ntmps38
    go_wp2_with (go_at_call 87; (with_reducible refine (P1.out _).mono ?_); rintro x2 w2 ⟨rfl, hb2⟩; have R2 := NW.out.below hb2 NW.out.lt; have c0 := R2.cell (j := 0) rfl; have c1 := R2.cell (j := 1) rfl; have c2 := R2.cell (j := 2) rfl; have B2 := Lib.hid (below_step NB.out hb2); clear hb2 R2)
    go_ret
    refine ⟨ret_str ?_, B2.out⟩
    rw [HP.out]
    apply bytes_eq
    simp only [append_data]
    rw [DM.out, DT.out, DA.out]
    simp [http1]
  · have e0 : (st == 0) = false := by rw [beq_eq_false_iff_ne]; exact h0
    have HP : Hid (OUT = http1 ++ printN s.minor 10 ++ 32 :: (printN s.status 10 ++ 32 :: (s.reason ++ [13, 10]))) := Lib.hid (by rw [← HO.out]; unfold printS; rw [if_neg (by rw [HST.out]; exact h0)])
    clear h0
    go_enter Tryz.func38, Tryz.ntmps38
    go_upto_region 4 with (go_at_call 87; (with_reducible refine (P1.out _).mono ?_); rintro x2 w2 ⟨rfl, hb2⟩; have R2 := Lib.hid (NW.out.below hb2 NW.out.lt); have c2 := R2.out.cell (j := 2) rfl; have B2 := Lib.hid (below_step NB.out hb2); clear hb2)
    clear c2
    have zV : ((⟨#[72, 84, 84, 80, 47, 49, 46]⟩ : ByteArray) ++ A).size ≤ 71 := by rw [ByteArray.size_append]; show 7 + A.size ≤ 71; omega
    obtain ⟨V, hV⟩ : ∃ V, ((⟨#[72, 84, 84, 80, 47, 49, 46]⟩ : ByteArray) ++ A) = V := ⟨_, rfl⟩
    rw [hV] at zV ⊢
    have DV : Hid (V.data.toList = http1 ++ printN s.minor 10) := Lib.hid (by rw [← hV, append_data, DA.out]; rfl)
    clear hV
    refine wp_region_plan (fun W => Below w2.heap.size w2 W) [(0, true), (1, true), (2, true), (3, true), (7, true), (8, true), (4, false), (5, true), (6, true), (9, true), (10, true), (11, true)] (by kernel_rfl) (by kernel_rfl) rfl (by kernel_rfl) (below_drewN (Below.refl _ _) 1) ?_
    intro w1 hH
    iterate 1
      refine plan_take (v := ?_) rfl (by rfl) ?_ ?_
      rotate_left
      · intro w2 hSw
        have R3 := R2.out.below hSw R2.out.lt
        have c2 := R3.cell (j := 2) rfl
        have c3 := R3.cell (j := 3) rfl
        clear R3
        clear hSw
        go_simp
        try with_reducible rfl
      try simp only [Act.put, List.setIfInBounds_toArray, List.set_cons_zero, List.set_cons_succ]
    iterate 1
      refine plan_add rfl (by rfl) _ _ _ _ rfl _ _ (by rfl) (by rfl) (by first | omega | (simp [mk_size]; omega)) ?_
      try simp only [Act.put, List.setIfInBounds_toArray, List.set_cons_zero, List.set_cons_succ]
    iterate 4
      refine plan_take (v := ?_) rfl (by rfl) ?_ ?_
      rotate_left
      · intro w2 hSw
        have R3 := R2.out.below hSw R2.out.lt
        have c2 := R3.cell (j := 2) rfl
        have c3 := R3.cell (j := 3) rfl
        clear R3
        clear hSw
        go_simp
        try with_reducible rfl
      try simp only [Act.put, List.setIfInBounds_toArray, List.set_cons_zero, List.set_cons_succ]
    refine plan_move rfl (by rfl) (fun K hK => ?_)
    go_simp
    (with_reducible refine (P2.out _).mono ?_)
    rintro x5 w5 ⟨rfl, hb5⟩
    refine hK.out _ _ (below_step hH.out hb5) ?_
    clear hH hK hb5 K
    intro hH
    try simp only [Act.put, List.setIfInBounds_toArray, List.set_cons_zero, List.set_cons_succ]
    iterate 4
      refine plan_add rfl (by rfl) _ _ _ _ rfl _ _ (by rfl) (by rfl) (by first | omega | (simp [mk_size]; omega)) ?_
      try simp only [Act.put, List.setIfInBounds_toArray, List.set_cons_zero, List.set_cons_succ]
    iterate 1
      refine plan_take (v := ?_) rfl (by rfl) ?_ ?_
      rotate_left
      · intro w2 hSw
        have R3 := R2.out.below hSw R2.out.lt
        have c2 := R3.cell (j := 2) rfl
        have c3 := R3.cell (j := 3) rfl
        clear R3
        clear hSw
        go_simp
        try with_reducible rfl
      try simp only [Act.put, List.setIfInBounds_toArray, List.set_cons_zero, List.set_cons_succ]
    refine plan_done ?_
    have B9 := Lib.hid (below_step B2.out hH.out)
    go_wp2_with fail
    go_ret
    refine ⟨ret_str ?_, B9.out⟩
    rw [HP.out]
    apply bytes_eq
    simp only [append_data]
    rw [DV.out, DB.out, DR.out]
    simp [http1]
end Go.Proofs.YtniiadhhefgmcaaGreatDoor

/- Layer 8: is a message right, by the document. Condition: lengths within the bounds named. Printed by mkpri1.py. -/
namespace Go.Proofs.YtniiadhhefgmcaaGreatDoor
open Go.RowKit IH
set_option maxRecDepth 100000
set_option maxHeartbeats 8000000 in
theorem rright8_any (s : Sta) (hs : StaS s) (L : List Fld) (X : List UInt8) (A1 A2 : Option Addr) (n1 n2 c1 c2 : Nat) (M : ByteArray) (w : World) (h1 : SliceIn w w.heap.size 2 A1 n1 c1 (fldsV L)) (h2 : SliceIn w w.heap.size 1 A2 n2 c2 (bytesV X)) (hn : n1 ≤ 1000000) (hb : FldB L n1) (hm : smallF 1000000000 L) :
    Calls Tryz.prog 11 #[.agg (msgC s (.slice A1 n1 c1) (.slice A2 n2 c2)).toArray, .string M] w fun e w' => e = .returned (.bool (rightM ⟨s, L, X⟩ M.data.toList)) ∧ Below w.heap.size w w' := by
  have HSi : Hid ((Tryz.prog.info? 23).map (·.size) = some 5) := Lib.hid (by kernel_rfl)
  have HMi : Hid ((Tryz.prog.info? 27).map (·.size) = some 7) := Lib.hid (by kernel_rfl)
  have hX : X.length = n2 := by have := h2.1; rw [bytesV_length] at this; omega
  have hc2 := h2.2.1
  have hc3 := h2.2.2.1
  obtain ⟨Sm, St, Sr, hs5, hsm⟩ := msg_cells s
  obtain ⟨ss, hss⟩ : ∃ x, s.status = x := ⟨_, rfl⟩
  obtain ⟨mi, hmi⟩ : ∃ x, s.minor = x := ⟨_, rfl⟩
  obtain ⟨w1, hw1⟩ : ∃ W : World, w.alloc (.cells (msgC s (.slice A1 n1 c1) (.slice A2 n2 c2)).toArray 27) = W := ⟨_, rfl⟩
  have B1 : Hid (Below w.heap.size w w1) := Lib.hid (by rw [← hw1]; exact (Below.refl _ _).alloc (Nat.le_refl _) _)
  have R1 : Hid (RowAt w1 w.heap.size 27 (msgC s (.slice A1 n1 c1) (.slice A2 n2 c2))) := Lib.hid (by rw [← hw1]; exact RowAt.new w 27 _)
  have FR := Lib.hid (rframing_any s A1 n1 c1 L (.slice A2 n2 c2) M w1 ((h1.below B1.out).more B1.out.size) hb)
  have RI := Lib.hid (fun (W : World) (hW : Below w1.heap.size w1 W) => rRight6_any s hs W)
  have FA := Lib.hid (fun (W : World) (hW : Below w.heap.size w W) => refFault_any A1 n1 c1 L W ((h1.below hW).more hW.size) hn hm)
  obtain ⟨T, hT⟩ : ∃ T, rightM ⟨s, L, X⟩ M.data.toList = T := ⟨_, rfl⟩
  have HT : Hid (T = (right6 s && decide (faultL L = 0) && decide ((framingL s L M.data.toList).2.2 = 0) && (if (framingL s L M.data.toList).1 = 2 then decide (n2 ≤ 1048576) else decide ((n2 : Int) = (framingL s L M.data.toList).2.1)))) := Lib.hid (by rw [← hT]; unfold rightM; simp only [hX])
  rw [hT]
  simp only [hsm, hs5, hss, hmi] at hw1 R1 FR RI ⊢
  obtain ⟨F, hF⟩ : ∃ F, framingL s L M.data.toList = F := ⟨_, rfl⟩
  rw [hF] at FR HT
  obtain ⟨ki, si, fe⟩ := F
  obtain ⟨r6, hr6⟩ : ∃ x, right6 s = x := ⟨_, rfl⟩
  obtain ⟨fl, hfl⟩ : ∃ x, faultL L = x := ⟨_, rfl⟩
  rw [hr6, hfl] at HT
  simp only [hr6] at RI
  simp only [hfl] at FA
  simp only at FR HT
  have r15 := range_front (F := [.string Sm, .string St, .int .i64 ss, .string Sr, .int .i64 mi]) (T := [.slice A1 n1 c1, .slice A2 n2 c2]) R1.out
  have R5 := Lib.hid (range_front (F := [.string Sm, .string St, .int .i64 ss, .string Sr, .int .i64 mi]) (T := [.slice A1 n1 c1, .slice A2 n2 c2]) R1.out)
  clear r15 hs hb hm hT hsm hs5 hss hmi hF hr6 hfl h1 h2 hX
  by_cases he : fe ≠ 0
  · have n10 : (fe != 0) = true := by rw [bne_iff_ne]; exact he
    have HV : Hid (T = false) := Lib.hid (by rw [HT.out]; simp [he])
    clear he
    go_enter Tryz.func11, Tryz.ntmps11
    go_wp2_with (first
      | (refine wpList_load_g (wanted_un rfl) 27 _ rfl w.heap.size 0 rfl [.string Sm, .string St, .int .i64 ss, .string Sr, .int .i64 mi, .slice A1 n1 c1, .slice A2 n2 c2] _ (rangeOf R1.out) Tryz.underlying27 rfl HMi.out ?_)
      | (go_at_call 34; (with_reducible refine FR.out.mono ?_); rintro x2 w2 ⟨rfl, hb2⟩; have B2 := Lib.hid (below_step B1.out hb2); have R2 := Lib.hid (R1.out.below hb2 R1.out.lt); have E2 := Lib.hid hb2; have d5 := R2.out.cell (j := 5) rfl; have d6 := R2.out.cell (j := 6) rfl; clear hb2)
      | (refine wpList_load_g (by first | exact wanted_un rfl | exact wanted_yes rfl rfl rfl rfl | exact (wanted_is rfl rfl rfl rfl).trans (by simp; omega) | exact (wanted_is rfl rfl rfl rfl).trans (by simp)) 23 _ rfl w.heap.size 0 rfl [.string Sm, .string St, .int .i64 ss, .string Sr, .int .i64 mi] _ (range_front (T := [.slice A1 n1 c1, .slice A2 n2 c2]) R2.out) Tryz.underlying23 rfl HSi.out ?_)
      | (go_at_call 35; (with_reducible refine (RI.out _ E2.out).mono ?_); rintro x3 w3 ⟨rfl, hb3⟩; have B3 := Lib.hid (below_step B2.out hb3); have R3 := Lib.hid (R2.out.below hb3 R2.out.lt); have d5 := R3.out.cell (j := 5) rfl; have d6 := R3.out.cell (j := 6) rfl; clear hb3)
      | (go_at_call 36; (with_reducible refine (FA.out _ B3.out).mono ?_); rintro x4 w4 ⟨rfl, hb4⟩; have B4 := Lib.hid (below_step B3.out hb4); have R4 := Lib.hid (R3.out.below hb4 R3.out.lt); have d6 := R4.out.cell (j := 6) rfl; clear hb4))
    go_ret
    exact ⟨by rw [HV.out]; rfl, B2.out⟩
  obtain rfl : fe = 0 := by omega
  clear he
  cases r6
  · have HV : Hid (T = false) := Lib.hid (by rw [HT.out]; simp)
    go_enter Tryz.func11, Tryz.ntmps11
    go_wp2_with (first
      | (refine wpList_load_g (wanted_un rfl) 27 _ rfl w.heap.size 0 rfl [.string Sm, .string St, .int .i64 ss, .string Sr, .int .i64 mi, .slice A1 n1 c1, .slice A2 n2 c2] _ (rangeOf R1.out) Tryz.underlying27 rfl HMi.out ?_)
      | (go_at_call 34; (with_reducible refine FR.out.mono ?_); rintro x2 w2 ⟨rfl, hb2⟩; have B2 := Lib.hid (below_step B1.out hb2); have R2 := Lib.hid (R1.out.below hb2 R1.out.lt); have E2 := Lib.hid hb2; have d5 := R2.out.cell (j := 5) rfl; have d6 := R2.out.cell (j := 6) rfl; clear hb2)
      | (refine wpList_load_g (by first | exact wanted_un rfl | exact wanted_yes rfl rfl rfl rfl | exact (wanted_is rfl rfl rfl rfl).trans (by simp; omega) | exact (wanted_is rfl rfl rfl rfl).trans (by simp)) 23 _ rfl w.heap.size 0 rfl [.string Sm, .string St, .int .i64 ss, .string Sr, .int .i64 mi] _ (range_front (T := [.slice A1 n1 c1, .slice A2 n2 c2]) R2.out) Tryz.underlying23 rfl HSi.out ?_)
      | (go_at_call 35; (with_reducible refine (RI.out _ E2.out).mono ?_); rintro x3 w3 ⟨rfl, hb3⟩; have B3 := Lib.hid (below_step B2.out hb3); have R3 := Lib.hid (R2.out.below hb3 R2.out.lt); have d5 := R3.out.cell (j := 5) rfl; have d6 := R3.out.cell (j := 6) rfl; clear hb3)
      | (go_at_call 36; (with_reducible refine (FA.out _ B3.out).mono ?_); rintro x4 w4 ⟨rfl, hb4⟩; have B4 := Lib.hid (below_step B3.out hb4); have R4 := Lib.hid (R3.out.below hb4 R3.out.lt); have d6 := R4.out.cell (j := 6) rfl; clear hb4))
    go_ret
    exact ⟨by rw [HV.out]; rfl, B3.out⟩
  by_cases hf : fl ≠ 0
  · have n10 : (fl != 0) = true := by rw [bne_iff_ne]; exact hf
    have HV : Hid (T = false) := Lib.hid (by rw [HT.out]; simp [hf])
    clear hf
    go_enter Tryz.func11, Tryz.ntmps11
    go_wp2_with (first
      | (refine wpList_load_g (wanted_un rfl) 27 _ rfl w.heap.size 0 rfl [.string Sm, .string St, .int .i64 ss, .string Sr, .int .i64 mi, .slice A1 n1 c1, .slice A2 n2 c2] _ (rangeOf R1.out) Tryz.underlying27 rfl HMi.out ?_)
      | (go_at_call 34; (with_reducible refine FR.out.mono ?_); rintro x2 w2 ⟨rfl, hb2⟩; have B2 := Lib.hid (below_step B1.out hb2); have R2 := Lib.hid (R1.out.below hb2 R1.out.lt); have E2 := Lib.hid hb2; have d5 := R2.out.cell (j := 5) rfl; have d6 := R2.out.cell (j := 6) rfl; clear hb2)
      | (refine wpList_load_g (by first | exact wanted_un rfl | exact wanted_yes rfl rfl rfl rfl | exact (wanted_is rfl rfl rfl rfl).trans (by simp; omega) | exact (wanted_is rfl rfl rfl rfl).trans (by simp)) 23 _ rfl w.heap.size 0 rfl [.string Sm, .string St, .int .i64 ss, .string Sr, .int .i64 mi] _ (range_front (T := [.slice A1 n1 c1, .slice A2 n2 c2]) R2.out) Tryz.underlying23 rfl HSi.out ?_)
      | (go_at_call 35; (with_reducible refine (RI.out _ E2.out).mono ?_); rintro x3 w3 ⟨rfl, hb3⟩; have B3 := Lib.hid (below_step B2.out hb3); have R3 := Lib.hid (R2.out.below hb3 R2.out.lt); have d5 := R3.out.cell (j := 5) rfl; have d6 := R3.out.cell (j := 6) rfl; clear hb3)
      | (go_at_call 36; (with_reducible refine (FA.out _ B3.out).mono ?_); rintro x4 w4 ⟨rfl, hb4⟩; have B4 := Lib.hid (below_step B3.out hb4); have R4 := Lib.hid (R3.out.below hb4 R3.out.lt); have d6 := R4.out.cell (j := 6) rfl; clear hb4))
    go_ret
    exact ⟨by rw [HV.out]; rfl, B4.out⟩
  obtain rfl : fl = 0 := by omega
  clear hf
  by_cases h2k : ki = 2
  · subst h2k
    have HV : Hid (T = decide (n2 ≤ 1048576)) := Lib.hid (by rw [HT.out]; simp)
    have q1 : decide ((n2 : Int) ≤ 1048576) = decide (n2 ≤ 1048576) := by rw [decide_eq_decide]; omega
    go_enter Tryz.func11, Tryz.ntmps11
    go_wp2_with (first
      | (refine wpList_load_g (wanted_un rfl) 27 _ rfl w.heap.size 0 rfl [.string Sm, .string St, .int .i64 ss, .string Sr, .int .i64 mi, .slice A1 n1 c1, .slice A2 n2 c2] _ (rangeOf R1.out) Tryz.underlying27 rfl HMi.out ?_)
      | (go_at_call 34; (with_reducible refine FR.out.mono ?_); rintro x2 w2 ⟨rfl, hb2⟩; have B2 := Lib.hid (below_step B1.out hb2); have R2 := Lib.hid (R1.out.below hb2 R1.out.lt); have E2 := Lib.hid hb2; have d5 := R2.out.cell (j := 5) rfl; have d6 := R2.out.cell (j := 6) rfl; clear hb2)
      | (refine wpList_load_g (by first | exact wanted_un rfl | exact wanted_yes rfl rfl rfl rfl | exact (wanted_is rfl rfl rfl rfl).trans (by simp; omega) | exact (wanted_is rfl rfl rfl rfl).trans (by simp)) 23 _ rfl w.heap.size 0 rfl [.string Sm, .string St, .int .i64 ss, .string Sr, .int .i64 mi] _ (range_front (T := [.slice A1 n1 c1, .slice A2 n2 c2]) R2.out) Tryz.underlying23 rfl HSi.out ?_)
      | (go_at_call 35; (with_reducible refine (RI.out _ E2.out).mono ?_); rintro x3 w3 ⟨rfl, hb3⟩; have B3 := Lib.hid (below_step B2.out hb3); have R3 := Lib.hid (R2.out.below hb3 R2.out.lt); have d5 := R3.out.cell (j := 5) rfl; have d6 := R3.out.cell (j := 6) rfl; clear hb3)
      | (go_at_call 36; (with_reducible refine (FA.out _ B3.out).mono ?_); rintro x4 w4 ⟨rfl, hb4⟩; have B4 := Lib.hid (below_step B3.out hb4); have R4 := Lib.hid (R3.out.below hb4 R3.out.lt); have d6 := R4.out.cell (j := 6) rfl; clear hb4))
    go_ret
    exact ⟨by rw [HV.out]; first | rfl | simp, B4.out⟩
  have n2k : (ki == 2) = false := by rw [beq_eq_false_iff_ne]; exact h2k
  have HV : Hid (T = ((n2 : Int) == si)) := Lib.hid (by rw [HT.out, if_neg h2k, Bool.eq_iff_iff]; simp)
  clear h2k
  go_enter Tryz.func11, Tryz.ntmps11
  go_wp2_with (first
    | (refine wpList_load_g (wanted_un rfl) 27 _ rfl w.heap.size 0 rfl [.string Sm, .string St, .int .i64 ss, .string Sr, .int .i64 mi, .slice A1 n1 c1, .slice A2 n2 c2] _ (rangeOf R1.out) Tryz.underlying27 rfl HMi.out ?_)
    | (go_at_call 34; (with_reducible refine FR.out.mono ?_); rintro x2 w2 ⟨rfl, hb2⟩; have B2 := Lib.hid (below_step B1.out hb2); have R2 := Lib.hid (R1.out.below hb2 R1.out.lt); have E2 := Lib.hid hb2; have d5 := R2.out.cell (j := 5) rfl; have d6 := R2.out.cell (j := 6) rfl; clear hb2)
    | (refine wpList_load_g (by first | exact wanted_un rfl | exact wanted_yes rfl rfl rfl rfl | exact (wanted_is rfl rfl rfl rfl).trans (by simp; omega) | exact (wanted_is rfl rfl rfl rfl).trans (by simp)) 23 _ rfl w.heap.size 0 rfl [.string Sm, .string St, .int .i64 ss, .string Sr, .int .i64 mi] _ (range_front (T := [.slice A1 n1 c1, .slice A2 n2 c2]) R2.out) Tryz.underlying23 rfl HSi.out ?_)
    | (go_at_call 35; (with_reducible refine (RI.out _ E2.out).mono ?_); rintro x3 w3 ⟨rfl, hb3⟩; have B3 := Lib.hid (below_step B2.out hb3); have R3 := Lib.hid (R2.out.below hb3 R2.out.lt); have d5 := R3.out.cell (j := 5) rfl; have d6 := R3.out.cell (j := 6) rfl; clear hb3)
    | (go_at_call 36; (with_reducible refine (FA.out _ B3.out).mono ?_); rintro x4 w4 ⟨rfl, hb4⟩; have B4 := Lib.hid (below_step B3.out hb4); have R4 := Lib.hid (R3.out.below hb4 R3.out.lt); have d6 := R4.out.cell (j := 6) rfl; clear hb4))
  go_ret
  exact ⟨by rw [HV.out]; first | rfl | simp, B4.out⟩
end Go.Proofs.YtniiadhhefgmcaaGreatDoor

/- Layer 8: a message written, by the document. Condition: lengths within the bounds named. Printed by mkpri2.py. -/
namespace Go.Proofs.YtniiadhhefgmcaaGreatDoor
open Go.RowKit IH
set_option maxRecDepth 100000
theorem piece_one {w : World} {B : Nat} {A : Option Addr} {n c : Nat} {p : List UInt8} (hs : SliceIn w B 1 A n c (bytesV p)) : PiecesR w B [p] [.slice A n c] := by
  refine ⟨rfl, fun i l h => ?_⟩
  cases i with
  | zero =>
    simp only [List.getElem?_cons_zero, Option.some.injEq] at h
    subst h
    exact ⟨A, n, c, rfl, hs⟩
  | succ i => simp at h
theorem bytes_eq8 {S : ByteArray} {l : List UInt8} (h : S.data.toList = l) : Ending.returned (.string S) = Ending.returned (.string ⟨l.toArray⟩) := by
  rw [← h]
theorem printL_size (L : List Fld) : (printL L).length = sizeL L := by
  unfold printL sizeL
  rw [List.length_append, List.length_flatMap]
  congr 2
  simp only [line1, List.length_append, List.length_cons, List.length_nil]
  apply List.map_congr_left
  intro f _
  omega
theorem printS_size {s : Sta} (h : StaB s) : (printS s).length ≤ 3000000300 := by
  have h1 := pN_len s.minor
  have h2 := pN_len s.status
  have h3 := h.m
  have h4 := h.t
  have h5 := h.r
  have h6 : http1.length ≤ 100 := by decide
  unfold printS
  split <;> simp only [List.length_append, List.length_cons, List.length_nil] <;> omega
theorem encL_len8 (ps : List (List UInt8)) (h : ∀ p ∈ ps, p.length ≤ 10000000) : (encL ps).length ≤ IH.total ps + 11 * ps.length + 5 := by
  unfold encL
  have := enc_len ps h
  rw [List.length_append]
  simp only [List.length_cons, List.length_nil]
  omega
set_option maxHeartbeats 8000000 in
theorem rprint8_any (s : Sta) (hs : StaB s) (L : List Fld) (X : List UInt8) (A1 A2 : Option Addr) (n1 n2 c1 c2 : Nat) (M : ByteArray) (w : World) (h1 : SliceIn w w.heap.size 2 A1 n1 c1 (fldsV L)) (h2 : SliceIn w w.heap.size 1 A2 n2 c2 (bytesV X)) (hb : FldB L n1) (hz : sizeL L ≤ 1000000000) (hx : n2 ≤ 1000000) :
    Calls Tryz.prog 13 #[.agg (msgC s (.slice A1 n1 c1) (.slice A2 n2 c2)).toArray, .string M] w fun e w' => e = .returned (.string ⟨(printM ⟨s, L, X⟩ M.data.toList).toArray⟩) ∧ Below w.heap.size w w' := by
  have HMi : Hid ((Tryz.prog.info? 27).map (·.size) = some 7) := Lib.hid (by kernel_rfl)
  have hX : X.length = n2 := by have := h2.1; rw [bytesV_length] at this; omega
  obtain ⟨Sm, St, Sr, hs5, hsm⟩ := msg_cells s
  obtain ⟨ss, hss⟩ : ∃ x, s.status = x := ⟨_, rfl⟩
  obtain ⟨mi, hmi⟩ : ∃ x, s.minor = x := ⟨_, rfl⟩
  obtain ⟨w1, hw1⟩ : ∃ W : World, w.alloc (.cells (msgC s (.slice A1 n1 c1) (.slice A2 n2 c2)).toArray 27) = W := ⟨_, rfl⟩
  have B1 : Hid (Below w.heap.size w w1) := Lib.hid (by rw [← hw1]; exact (Below.refl _ _).alloc (Nat.le_refl _) _)
  have R1 : Hid (RowAt w1 w.heap.size 27 (msgC s (.slice A1 n1 c1) (.slice A2 n2 c2))) := Lib.hid (by rw [← hw1]; exact RowAt.new w 27 _)
  have FR := Lib.hid (fun (W : World) (hW : Below w.heap.size w W) => rframing_any s A1 n1 c1 L (.slice A2 n2 c2) M W ((h1.below hW).more hW.size) hb)
  have P6 := fun (W : World) => rprint6_any s hs W
  have P3 := fun (W : World) (hW : Below w.heap.size w W) => refPrint3_any A1 n1 c1 L W ((h1.below hW).more hW.size) hz
  obtain ⟨a, ha⟩ : ∃ a : ByteArray, (⟨(printS s).toArray⟩ : ByteArray) = a := ⟨_, rfl⟩
  obtain ⟨b, hbb⟩ : ∃ b : ByteArray, (⟨(printL L).toArray⟩ : ByteArray) = b := ⟨_, rfl⟩
  have zA : a.size ≤ 3000000300 := by rw [← ha, size_mk]; exact printS_size hs
  have zB : b.size ≤ 1000000000 := by rw [← hbb, size_mk, printL_size]; exact hz
  have dA : Hid (a.data.toList = printS s) := Lib.hid (by rw [← ha])
  have dB : Hid (b.data.toList = printL L) := Lib.hid (by rw [← hbb])
  rw [ha] at P6
  rw [hbb] at P3
  replace P6 := Lib.hid P6
  replace P3 := Lib.hid P3
  have H2 := Lib.hid h2
  obtain ⟨ab, hab⟩ : ∃ x : ByteArray, a ++ b = x := ⟨_, rfl⟩
  have zAB : ab.size ≤ 4000000300 := by rw [← hab, ← data_len, append_data, List.length_append, data_len, data_len]; omega
  have dAB : Hid (ab.data.toList = printS s ++ printL L) := Lib.hid (by rw [← hab, append_data, dA.out, dB.out])
  obtain ⟨T, hT⟩ : ∃ T, printM ⟨s, L, X⟩ M.data.toList = T := ⟨_, rfl⟩
  have HT : Hid (T = printS s ++ (printL L ++ if (framingL s L M.data.toList).1 = 2 then encL [X] else X)) := Lib.hid (by rw [← hT]; rfl)
  rw [hT]
  simp only [hsm, hs5, hss, hmi] at hw1 R1 FR P6 ⊢
  obtain ⟨F, hF⟩ : ∃ F, framingL s L M.data.toList = F := ⟨_, rfl⟩
  rw [hF] at FR HT
  obtain ⟨ki, si, fe⟩ := F
  simp only at FR HT
  clear hs hb hz hT hsm hs5 hss hmi hF h1 h2 ha hbb
  go_enter Tryz.func13, Tryz.ntmps13
  go_upto_region 1 with fail
  go_cut [5] from 9 to 15 (fun s5 wx => s5 = .string ab ∧ Below w1.heap.size w1 wx)
  case first =>
    refine wp_region_tree (fun W => Below w1.heap.size w1 W) (.take 0 (.take 1 (.take 3 (.take 4 (.node (.fork 2 (.node (.fork 5 (.take 6 (.take 7 (.done))) (.stop))) (.stop))))))) (by kernel_rfl) (by kernel_rfl) (of_decide_eq_true (by kernel_rfl)) rfl (by kernel_rfl) (below_drewN (Below.refl _ _) 1) ?_
    intro w1 hH
    iterate 4
      refine tree_take (v := ?_) rfl (by rfl) ?_ ?_
      rotate_left
      · intro w2 hSw
        have r1 := R1.out.below hSw R1.out.lt
        have d0 := r1.cell (j := 0) rfl
        have d1 := r1.cell (j := 1) rfl
        have d2 := r1.cell (j := 2) rfl
        have d3 := r1.cell (j := 3) rfl
        have d4 := r1.cell (j := 4) rfl
        have d5 := r1.cell (j := 5) rfl
        clear r1
        clear hSw
        go_simp
        try with_reducible rfl
      try simp only [Act.put, List.setIfInBounds_toArray, List.set_cons_zero, List.set_cons_succ]
    refine tree_node ?_
    refine tree_move rfl (by rfl) (fun K hK => ?_) ?_
    · go_simp
      (with_reducible refine (P6.out _).mono ?_)
      rintro e w5 ⟨rfl, hb5⟩
      refine hK.out _ _ (below_step hH.out hb5) ?_
      clear hH hK hb5 K
      intro hH
      try simp only [Act.put, List.setIfInBounds_toArray, List.set_cons_zero, List.set_cons_succ]
      refine tree_node ?_
      refine tree_move rfl (by rfl) (fun K hK => ?_) ?_
      · go_simp
        (with_reducible refine (P3.out _ (below_step B1.out hH.out)).mono ?_)
        rintro e w5 ⟨rfl, hb5⟩
        refine hK.out _ _ (below_step hH.out hb5) ?_
        clear hH hK hb5 K
        intro hH
        try simp only [Act.put, List.setIfInBounds_toArray, List.set_cons_zero, List.set_cons_succ]
        iterate 1
          refine tree_add rfl (by rfl) _ _ _ _ rfl _ _ (by rfl) (by rfl) (by omega) ?_
          try simp only [Act.put, List.setIfInBounds_toArray, List.set_cons_zero, List.set_cons_succ]
        iterate 1
          refine tree_take (v := ?_) rfl (by rfl) ?_ ?_
          rotate_left
          · intro w2 hSw
            have r1 := R1.out.below hSw R1.out.lt
            have d0 := r1.cell (j := 0) rfl
            have d1 := r1.cell (j := 1) rfl
            have d2 := r1.cell (j := 2) rfl
            have d3 := r1.cell (j := 3) rfl
            have d4 := r1.cell (j := 4) rfl
            have d5 := r1.cell (j := 5) rfl
            clear r1
            clear hSw
            go_simp
            try with_reducible rfl
          try simp only [Act.put, List.setIfInBounds_toArray, List.set_cons_zero, List.set_cons_succ]
        refine tree_done ?_
        go_wp2_with fail
        (try rw [hab])
        go_meet
        exact ⟨rfl, hH.out⟩
      exact tree_stop
    exact tree_stop
  case rest =>
    obtain ⟨w9, hw9⟩ : ∃ W : World, W = wc := ⟨_, rfl⟩
    subst hw9
    obtain ⟨rfl, hcb⟩ := hcut
    have B9 := Lib.hid (below_step B1.out hcb)
    have R9 := Lib.hid (R1.out.below hcb R1.out.lt)
    clear hcb P6 P3 hab
    by_cases h2k : ki = 2
    · subst h2k
      rw [if_pos rfl] at HT
      have EN := Lib.hid (fun (W : World) (g c : Nat) (hW : Below w.heap.size w W) (hs : SliceIn W W.heap.size 1 (some ⟨g, 0, none⟩) 1 c [.slice A2 n2 c2]) => renc_any (some ⟨g, 0, none⟩) 1 c [X] [.slice A2 n2 c2] W hs (piece_one ((H2.out.below hW).more hW.size)) (by omega) (by simp [IH.total, hX]; omega))
      have hel := encL_len8 [X] (fun p hp => by simp only [List.mem_singleton] at hp; subst hp; omega)
      have htot : IH.total [X] = X.length := by simp [IH.total]
      rw [htot, hX] at hel
      simp only [List.length_cons, List.length_nil] at hel
      obtain ⟨E, hE⟩ : ∃ E, encL [X] = E := ⟨_, rfl⟩
      rw [hE] at EN hel HT
      obtain ⟨Eb, hEb⟩ : ∃ x : ByteArray, (⟨E.toArray⟩ : ByteArray) = x := ⟨_, rfl⟩
      have zE : Eb.size ≤ 1001000 := by rw [← hEb, size_mk]; omega
      have HEb := Lib.hid hEb
      have dE : Hid (Eb.data.toList = E) := Lib.hid (by rw [← hEb])
      clear hel htot hE hEb hX
      go_wp2_with (first
        | (refine wpList_load_g (wanted_un rfl) 27 _ rfl w.heap.size 0 rfl [.string Sm, .string St, .int .i64 ss, .string Sr, .int .i64 mi, .slice A1 n1 c1, .slice A2 n2 c2] _ (rangeOf R9.out) Tryz.underlying27 rfl HMi.out ?_)
        | (go_at_call 34; (with_reducible refine (FR.out _ B9.out).mono ?_); rintro x2 w2 ⟨rfl, hb2⟩; have B2 := Lib.hid (below_step B9.out hb2); have d6 := (R9.out.below hb2 R9.out.lt).cell (j := 6) rfl; clear hb2)
        | (go_at_call 40; have bA := below_al w2 (.cells #[.slice A2 n2 c2] 25); (with_reducible refine (EN.out _ _ _ (below_step B2.out bA) ((RowAt.new w2 25 [.slice A2 n2 c2]).slice (size := 1) (n := 1) (c := 1) rfl (Nat.le_refl _) (by simp [maxLen]))).mono ?_); rintro x4 w4 ⟨v4, rfl, ho4, hb4⟩; obtain ⟨A4, c4, rfl, s4⟩ := own_slice ho4; have B4 := Lib.hid (below_step (below_step B2.out bA) hb4); have q4 := run_string_of (P := Tryz.prog) s4 25 9 5 Tryz.underlying25 Tryz.underlying5 Tryz.underlying9; rw [HEb.out] at q4; clear hb4 bA ho4 s4))
      go_ret
      exact ⟨bytes_eq8 (by rw [HT.out, append_data, dAB.out, dE.out]; simp), B4.out⟩
    rw [if_neg h2k] at HT
    have n2k : (ki == 2) = false := by rw [beq_eq_false_iff_ne]; exact h2k
    obtain ⟨Xb, hXb⟩ : ∃ x : ByteArray, (⟨X.toArray⟩ : ByteArray) = x := ⟨_, rfl⟩
    have zX : Xb.size ≤ 1000000 := by rw [← hXb, size_mk]; omega
    have HXb := Lib.hid hXb
    have dX : Hid (Xb.data.toList = X) := Lib.hid (by rw [← hXb])
    clear h2k hXb hX
    go_wp2_with (first
      | (refine wpList_load_g (wanted_un rfl) 27 _ rfl w.heap.size 0 rfl [.string Sm, .string St, .int .i64 ss, .string Sr, .int .i64 mi, .slice A1 n1 c1, .slice A2 n2 c2] _ (rangeOf R9.out) Tryz.underlying27 rfl HMi.out ?_)
      | (go_at_call 34; (with_reducible refine (FR.out _ B9.out).mono ?_); rintro x2 w2 ⟨rfl, hb2⟩; have B2 := Lib.hid (below_step B9.out hb2); have d6 := (R9.out.below hb2 R9.out.lt).cell (j := 6) rfl; have q4 := run_string_of (P := Tryz.prog) ((H2.out.below B2.out).more B2.out.size) 25 9 5 Tryz.underlying25 Tryz.underlying5 Tryz.underlying9; rw [HXb.out] at q4; clear hb2))
    go_ret
    exact ⟨bytes_eq8 (by rw [HT.out, append_data, dAB.out, dX.out]; simp), B2.out⟩
end Go.Proofs.YtniiadhhefgmcaaGreatDoor
