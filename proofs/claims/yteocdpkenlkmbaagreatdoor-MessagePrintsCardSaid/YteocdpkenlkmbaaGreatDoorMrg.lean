/- Layer 8: message.Right, by the code. Conditions: the lists are within bounds. Printed by mkmrg.py. -/
import Derived.Test.YteocdpkenlkmbaaGreatDoorPr
namespace Go.Proofs.YteocdpkenlkmbaaGreatDoor
open Go.RowKit IH
set_option maxRecDepth 100000
set_option maxHeartbeats 8000000 in
theorem mright_any (s : Sta) (hs : StaS s) (L : List Fld) (X : List UInt8) (A1 A2 : Option Addr) (n1 n2 c1 c2 : Nat) (M : ByteArray) (w : World) (h1 : SliceIn w w.heap.size 2 A1 n1 c1 (fldsV L)) (h2 : SliceIn w w.heap.size 1 A2 n2 c2 (bytesV X)) (hb : FldB L n1) :
    Calls Tryz.prog 47 #[.agg (msgC s (.slice A1 n1 c1) (.slice A2 n2 c2)).toArray, .string M] w fun e w' => e = .returned (.bool (rightM ⟨s, L, X⟩ M.data.toList)) ∧ Below w.heap.size w w' := by
  have HSi : Hid ((Tryz.prog.info? 46).map (·.size) = some 5) := Lib.hid (by kernel_rfl)
  have HMi : Hid ((Tryz.prog.info? 49).map (·.size) = some 7) := Lib.hid (by kernel_rfl)
  have hX : X.length = n2 := by have := h2.1; rw [bytesV_length] at this; omega
  have hc2 := h2.2.1
  have hc3 := h2.2.2.1
  obtain ⟨Sm, St, Sr, hs5, hsm⟩ := msg_cells s
  obtain ⟨ss, hss⟩ : ∃ x, s.status = x := ⟨_, rfl⟩
  obtain ⟨mi, hmi⟩ : ∃ x, s.minor = x := ⟨_, rfl⟩
  obtain ⟨w1, hw1⟩ : ∃ W : World, w.alloc (.cells (msgC s (.slice A1 n1 c1) (.slice A2 n2 c2)).toArray 49) = W := ⟨_, rfl⟩
  have B1 : Hid (Below w.heap.size w w1) := Lib.hid (by rw [← hw1]; exact (Below.refl _ _).alloc (Nat.le_refl _) _)
  have R1 : Hid (RowAt w1 w.heap.size 49 (msgC s (.slice A1 n1 c1) (.slice A2 n2 c2))) := Lib.hid (by rw [← hw1]; exact RowAt.new w 49 _)
  have FR := Lib.hid (mframing_any s A1 n1 c1 L (.slice A2 n2 c2) M w1 ((h1.below B1.out).more B1.out.size) hb)
  have RI := Lib.hid (fun (W : World) (hW : Below w1.heap.size w1 W) => right6_any s hs W)
  have FA := Lib.hid (fun (W : World) (hW : Below w.heap.size w W) => fRight_any A1 n1 c1 L W ((h1.below hW).more hW.size) hb.n hb.f)
  obtain ⟨T, hT⟩ : ∃ T, rightM ⟨s, L, X⟩ M.data.toList = T := ⟨_, rfl⟩
  have HT : Hid (T = (right6 s && (faultL L == 0) && decide ((framingL s L M.data.toList).2.2 = 0) && (if (framingL s L M.data.toList).1 = 2 then decide (n2 ≤ 1048576) else decide ((n2 : Int) = (framingL s L M.data.toList).2.1)))) := Lib.hid (by rw [← hT]; unfold rightM; simp only [hX]; rfl)
  rw [hT]
  simp only [hsm, hs5, hss, hmi] at hw1 R1 FR RI ⊢
  obtain ⟨F, hF⟩ : ∃ F, framingL s L M.data.toList = F := ⟨_, rfl⟩
  rw [hF] at FR HT
  obtain ⟨ki, si, fe⟩ := F
  obtain ⟨r6, hr6⟩ : ∃ x, right6 s = x := ⟨_, rfl⟩
  obtain ⟨fl, hfl⟩ : ∃ x, (faultL L == 0) = x := ⟨_, rfl⟩
  rw [hr6, hfl] at HT
  simp only [hr6] at RI
  simp only [hfl] at FA
  simp only at FR HT
  clear hs hb hT hsm hs5 hss hmi hF hr6 hfl h1 h2 hX
  cases r6
  · have HV : Hid (T = false) := Lib.hid (by rw [HT.out]; simp)
    go_enter Tryz.func47, Tryz.ntmps47
    go_wp2_with (first
      | (have _t := R1; refine wpList_load_g (wanted_un rfl) 49 _ rfl w.heap.size 0 rfl [.string Sm, .string St, .int .i64 ss, .string Sr, .int .i64 mi, .slice A1 n1 c1, .slice A2 n2 c2] _ (rangeOf R1.out) Tryz.underlying49 rfl HMi.out ?_)
      | (go_at_call 45; (with_reducible refine FR.out.mono ?_); rintro x2 w2 ⟨rfl, hb2⟩; have B2 := Lib.hid (below_step B1.out hb2); have R2 := Lib.hid (R1.out.below hb2 R1.out.lt); have E2 := Lib.hid hb2; have d5 := R2.out.cell (j := 5) rfl; have d6 := R2.out.cell (j := 6) rfl; clear hb2)
      | (refine wpList_load_g (by first | exact wanted_un rfl | exact wanted_yes rfl rfl rfl rfl | exact (wanted_is rfl rfl rfl rfl).trans (by simp; omega) | exact (wanted_is rfl rfl rfl rfl).trans (by simp)) 46 _ rfl w.heap.size 0 rfl [.string Sm, .string St, .int .i64 ss, .string Sr, .int .i64 mi] _ (range_front (T := [.slice A1 n1 c1, .slice A2 n2 c2]) R2.out) Tryz.underlying46 rfl HSi.out ?_)
      | (go_at_call 91; (with_reducible refine (RI.out _ E2.out).mono ?_); rintro x3 w3 ⟨rfl, hb3⟩; have B3 := Lib.hid (below_step B2.out hb3); have R3 := Lib.hid (R2.out.below hb3 R2.out.lt); have d5 := R3.out.cell (j := 5) rfl; have d6 := R3.out.cell (j := 6) rfl; clear hb3)
      | (go_at_call 92; (with_reducible refine (FA.out _ B3.out).mono ?_); rintro x4 w4 ⟨rfl, hb4⟩; have B4 := Lib.hid (below_step B3.out hb4); have R4 := Lib.hid (R3.out.below hb4 R3.out.lt); have d6 := R4.out.cell (j := 6) rfl; clear hb4))
    go_ret
    exact ⟨by rw [HV.out]; rfl, B3.out⟩
  cases fl
  · have HV : Hid (T = false) := Lib.hid (by rw [HT.out]; simp)
    go_enter Tryz.func47, Tryz.ntmps47
    go_wp2_with (first
      | (have _t := R1; refine wpList_load_g (wanted_un rfl) 49 _ rfl w.heap.size 0 rfl [.string Sm, .string St, .int .i64 ss, .string Sr, .int .i64 mi, .slice A1 n1 c1, .slice A2 n2 c2] _ (rangeOf R1.out) Tryz.underlying49 rfl HMi.out ?_)
      | (go_at_call 45; (with_reducible refine FR.out.mono ?_); rintro x2 w2 ⟨rfl, hb2⟩; have B2 := Lib.hid (below_step B1.out hb2); have R2 := Lib.hid (R1.out.below hb2 R1.out.lt); have E2 := Lib.hid hb2; have d5 := R2.out.cell (j := 5) rfl; have d6 := R2.out.cell (j := 6) rfl; clear hb2)
      | (refine wpList_load_g (by first | exact wanted_un rfl | exact wanted_yes rfl rfl rfl rfl | exact (wanted_is rfl rfl rfl rfl).trans (by simp; omega) | exact (wanted_is rfl rfl rfl rfl).trans (by simp)) 46 _ rfl w.heap.size 0 rfl [.string Sm, .string St, .int .i64 ss, .string Sr, .int .i64 mi] _ (range_front (T := [.slice A1 n1 c1, .slice A2 n2 c2]) R2.out) Tryz.underlying46 rfl HSi.out ?_)
      | (go_at_call 91; (with_reducible refine (RI.out _ E2.out).mono ?_); rintro x3 w3 ⟨rfl, hb3⟩; have B3 := Lib.hid (below_step B2.out hb3); have R3 := Lib.hid (R2.out.below hb3 R2.out.lt); have d5 := R3.out.cell (j := 5) rfl; have d6 := R3.out.cell (j := 6) rfl; clear hb3)
      | (go_at_call 92; (with_reducible refine (FA.out _ B3.out).mono ?_); rintro x4 w4 ⟨rfl, hb4⟩; have B4 := Lib.hid (below_step B3.out hb4); have R4 := Lib.hid (R3.out.below hb4 R3.out.lt); have d6 := R4.out.cell (j := 6) rfl; clear hb4))
    go_ret
    exact ⟨by rw [HV.out]; rfl, B4.out⟩
  by_cases he : fe ≠ 0
  · have n10 : (fe != 0) = true := by rw [bne_iff_ne]; exact he
    have HV : Hid (T = false) := Lib.hid (by rw [HT.out]; simp [he])
    clear he
    go_enter Tryz.func47, Tryz.ntmps47
    go_wp2_with (first
      | (have _t := R1; refine wpList_load_g (wanted_un rfl) 49 _ rfl w.heap.size 0 rfl [.string Sm, .string St, .int .i64 ss, .string Sr, .int .i64 mi, .slice A1 n1 c1, .slice A2 n2 c2] _ (rangeOf R1.out) Tryz.underlying49 rfl HMi.out ?_)
      | (go_at_call 45; (with_reducible refine FR.out.mono ?_); rintro x2 w2 ⟨rfl, hb2⟩; have B2 := Lib.hid (below_step B1.out hb2); have R2 := Lib.hid (R1.out.below hb2 R1.out.lt); have E2 := Lib.hid hb2; have d5 := R2.out.cell (j := 5) rfl; have d6 := R2.out.cell (j := 6) rfl; clear hb2)
      | (refine wpList_load_g (by first | exact wanted_un rfl | exact wanted_yes rfl rfl rfl rfl | exact (wanted_is rfl rfl rfl rfl).trans (by simp; omega) | exact (wanted_is rfl rfl rfl rfl).trans (by simp)) 46 _ rfl w.heap.size 0 rfl [.string Sm, .string St, .int .i64 ss, .string Sr, .int .i64 mi] _ (range_front (T := [.slice A1 n1 c1, .slice A2 n2 c2]) R2.out) Tryz.underlying46 rfl HSi.out ?_)
      | (go_at_call 91; (with_reducible refine (RI.out _ E2.out).mono ?_); rintro x3 w3 ⟨rfl, hb3⟩; have B3 := Lib.hid (below_step B2.out hb3); have R3 := Lib.hid (R2.out.below hb3 R2.out.lt); have d5 := R3.out.cell (j := 5) rfl; have d6 := R3.out.cell (j := 6) rfl; clear hb3)
      | (go_at_call 92; (with_reducible refine (FA.out _ B3.out).mono ?_); rintro x4 w4 ⟨rfl, hb4⟩; have B4 := Lib.hid (below_step B3.out hb4); have R4 := Lib.hid (R3.out.below hb4 R3.out.lt); have d6 := R4.out.cell (j := 6) rfl; clear hb4))
    go_ret
    exact ⟨by rw [HV.out]; rfl, B4.out⟩
  obtain rfl : fe = 0 := by omega
  clear he
  by_cases h2k : ki = 2
  · subst h2k
    have HV : Hid (T = decide (n2 ≤ 1048576)) := Lib.hid (by rw [HT.out]; simp)
    have q1 : decide ((n2 : Int) ≤ 1048576) = decide (n2 ≤ 1048576) := by rw [decide_eq_decide]; omega
    go_enter Tryz.func47, Tryz.ntmps47
    go_wp2_with (first
      | (have _t := R1; refine wpList_load_g (wanted_un rfl) 49 _ rfl w.heap.size 0 rfl [.string Sm, .string St, .int .i64 ss, .string Sr, .int .i64 mi, .slice A1 n1 c1, .slice A2 n2 c2] _ (rangeOf R1.out) Tryz.underlying49 rfl HMi.out ?_)
      | (go_at_call 45; (with_reducible refine FR.out.mono ?_); rintro x2 w2 ⟨rfl, hb2⟩; have B2 := Lib.hid (below_step B1.out hb2); have R2 := Lib.hid (R1.out.below hb2 R1.out.lt); have E2 := Lib.hid hb2; have d5 := R2.out.cell (j := 5) rfl; have d6 := R2.out.cell (j := 6) rfl; clear hb2)
      | (refine wpList_load_g (by first | exact wanted_un rfl | exact wanted_yes rfl rfl rfl rfl | exact (wanted_is rfl rfl rfl rfl).trans (by simp; omega) | exact (wanted_is rfl rfl rfl rfl).trans (by simp)) 46 _ rfl w.heap.size 0 rfl [.string Sm, .string St, .int .i64 ss, .string Sr, .int .i64 mi] _ (range_front (T := [.slice A1 n1 c1, .slice A2 n2 c2]) R2.out) Tryz.underlying46 rfl HSi.out ?_)
      | (go_at_call 91; (with_reducible refine (RI.out _ E2.out).mono ?_); rintro x3 w3 ⟨rfl, hb3⟩; have B3 := Lib.hid (below_step B2.out hb3); have R3 := Lib.hid (R2.out.below hb3 R2.out.lt); have d5 := R3.out.cell (j := 5) rfl; have d6 := R3.out.cell (j := 6) rfl; clear hb3)
      | (go_at_call 92; (with_reducible refine (FA.out _ B3.out).mono ?_); rintro x4 w4 ⟨rfl, hb4⟩; have B4 := Lib.hid (below_step B3.out hb4); have R4 := Lib.hid (R3.out.below hb4 R3.out.lt); have d6 := R4.out.cell (j := 6) rfl; clear hb4))
    go_ret
    exact ⟨by rw [HV.out]; first | rfl | simp, B4.out⟩
  have n2k : (ki == 2) = false := by rw [beq_eq_false_iff_ne]; exact h2k
  have HV : Hid (T = ((n2 : Int) == si)) := Lib.hid (by rw [HT.out, if_neg h2k, Bool.eq_iff_iff]; simp)
  clear h2k
  go_enter Tryz.func47, Tryz.ntmps47
  go_wp2_with (first
    | (have _t := R1; refine wpList_load_g (wanted_un rfl) 49 _ rfl w.heap.size 0 rfl [.string Sm, .string St, .int .i64 ss, .string Sr, .int .i64 mi, .slice A1 n1 c1, .slice A2 n2 c2] _ (rangeOf R1.out) Tryz.underlying49 rfl HMi.out ?_)
    | (go_at_call 45; (with_reducible refine FR.out.mono ?_); rintro x2 w2 ⟨rfl, hb2⟩; have B2 := Lib.hid (below_step B1.out hb2); have R2 := Lib.hid (R1.out.below hb2 R1.out.lt); have E2 := Lib.hid hb2; have d5 := R2.out.cell (j := 5) rfl; have d6 := R2.out.cell (j := 6) rfl; clear hb2)
    | (refine wpList_load_g (by first | exact wanted_un rfl | exact wanted_yes rfl rfl rfl rfl | exact (wanted_is rfl rfl rfl rfl).trans (by simp; omega) | exact (wanted_is rfl rfl rfl rfl).trans (by simp)) 46 _ rfl w.heap.size 0 rfl [.string Sm, .string St, .int .i64 ss, .string Sr, .int .i64 mi] _ (range_front (T := [.slice A1 n1 c1, .slice A2 n2 c2]) R2.out) Tryz.underlying46 rfl HSi.out ?_)
    | (go_at_call 91; (with_reducible refine (RI.out _ E2.out).mono ?_); rintro x3 w3 ⟨rfl, hb3⟩; have B3 := Lib.hid (below_step B2.out hb3); have R3 := Lib.hid (R2.out.below hb3 R2.out.lt); have d5 := R3.out.cell (j := 5) rfl; have d6 := R3.out.cell (j := 6) rfl; clear hb3)
    | (go_at_call 92; (with_reducible refine (FA.out _ B3.out).mono ?_); rintro x4 w4 ⟨rfl, hb4⟩; have B4 := Lib.hid (below_step B3.out hb4); have R4 := Lib.hid (R3.out.below hb4 R3.out.lt); have d6 := R4.out.cell (j := 6) rfl; clear hb4))
  go_ret
  exact ⟨by rw [HV.out]; first | rfl | simp, B4.out⟩
end Go.Proofs.YteocdpkenlkmbaaGreatDoor
