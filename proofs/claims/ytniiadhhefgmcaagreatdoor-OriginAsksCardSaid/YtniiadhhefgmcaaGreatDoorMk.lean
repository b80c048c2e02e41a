/- Mk: several texts, one behind the other. -/
import Derived.Test.YtniiadhhefgmcaaGreatDoorPr
import Derived.Test.YtniiadhhefgmcaaGreatDoorOz
import Derived.Test.YtniiadhhefgmcaaGreatDoorTk
import Derived.Test.YtniiadhhefgmcaaGreatDoorShelf
import Derived.Test.YtniiadhhefgmcaaGreatDoorCh
/- Layer 8: message.Right, by the code. Conditions: the lists are within bounds. Printed by mkmrg.py. -/
namespace Go.Proofs.YtniiadhhefgmcaaGreatDoor
open Go.RowKit IH
set_option maxRecDepth 100000
set_option maxHeartbeats 8000000 in
theorem mright_any (s : Sta) (hs : StaS s) (L : List Fld) (X : List UInt8) (A1 A2 : Option Addr) (n1 n2 c1 c2 : Nat) (M : ByteArray) (w : World) (h1 : SliceIn w w.heap.size 2 A1 n1 c1 (fldsV L)) (h2 : SliceIn w w.heap.size 1 A2 n2 c2 (bytesV X)) (hb : FldB L n1) :
    Calls Tryz.prog 72 #[.agg (msgC s (.slice A1 n1 c1) (.slice A2 n2 c2)).toArray, .string M] w fun e w' => e = .returned (.bool (rightM ⟨s, L, X⟩ M.data.toList)) ∧ Below w.heap.size w w' := by
  have HSi : Hid ((Tryz.prog.info? 23).map (·.size) = some 5) := Lib.hid (by kernel_rfl)
  have HMi : Hid ((Tryz.prog.info? 27).map (·.size) = some 7) := Lib.hid (by kernel_rfl)
  have hX : X.length = n2 := by have := h2.1; rw [bytesV_length] at this; omega
  have hc2 := h2.2.1
  have hc3 := h2.2.2.1
  obtain ⟨Sm, St, Sr, hs5, hsm⟩ := msg_cells s
  obtain ⟨ss, hss⟩ : ∃ x, s.status = x := ⟨_, rfl⟩
  obtain ⟨mi, hmi⟩ : ∃ x, s.minor = x := ⟨_, rfl⟩
  obtain ⟨w1, hw1⟩ : ∃ W : World, w.alloc (.cells (msgC s (.slice A1 n1 c1) (.slice A2 n2 c2)).toArray 27) = W := ⟨_, rfl⟩
  have B1 : Hid (Below w.heap.size w w1) := Lib.hid (by rw [← hw1]; exact (Below.refl _ _).alloc (Nat.le_refl _) _)
  have R1 : Hid (RowAt w1 w.heap.size 27 (msgC s (.slice A1 n1 c1) (.slice A2 n2 c2))) := Lib.hid (by rw [← hw1]; exact RowAt.new w 27 _)
  have FR := Lib.hid (mframing_any s A1 n1 c1 L (.slice A2 n2 c2) M w1 ((h1.below B1.out).more B1.out.size) hb)
  have RI := Lib.hid (fun (W : World) (hW : Below w1.heap.size w1 W) => right6_any s hs W)
  have FA := Lib.hid (fun (W : World) (hW : Below w.heap.size w W) => fRight_any A1 n1 c1 L W ((h1.below hW).more hW.size) hb.n hb.f)
  obtain ⟨T, hT⟩ : ∃ T, rightM ⟨s, L, X⟩ M.data.toList = T := ⟨_, rfl⟩
  have HT : Hid (T = (right6 s && (faultL L == 0) && decide ((framingL s L M.data.toList).2.2 = 0) && (if (framingL s L M.data.toList).1 = 2 then decide (n2 ≤ 1048576) else decide ((n2 : Int) = (framingL s L M.data.toList).2.1)))) := Lib.hid (by rw [← hT]; unfold rightM; simp only [hX]; rfl)
  rw [hT]
  simp only [hsm, hs5, hss, hmi] at hw1 R1 FR RI ⊢
  obtain ⟨F, hF⟩ : ∃ F, framingL s L M.data.toList = F := ⟨_, rfl⟩
  rw [hF] at FR HT
  obtain ⟨ki, si, fe⟩ := F
  obtain ⟨r6, hr6⟩ : ∃ x, right6 s = x := ⟨_, rfl⟩
  obtain ⟨fl, hfl⟩ : ∃ x, (faultL L == 0) = x := ⟨_, rfl⟩
  rw [hr6, hfl] at HT
  simp only [hr6] at RI
  simp only [hfl] at FA
  simp only at FR HT
  clear hs hb hT hsm hs5 hss hmi hF hr6 hfl h1 h2 hX
  cases r6
  · have HV : Hid (T = false) := Lib.hid (by rw [HT.out]; simp)
    go_enter Tryz.func72, Tryz.ntmps72
    go_wp2_with (first
      | (have _t := R1; refine wpList_load_g (wanted_un rfl) 27 _ rfl w.heap.size 0 rfl [.string Sm, .string St, .int .i64 ss, .string Sr, .int .i64 mi, .slice A1 n1 c1, .slice A2 n2 c2] _ (rangeOf R1.out) Tryz.underlying27 rfl HMi.out ?_)
      | (go_at_call 75; (with_reducible refine FR.out.mono ?_); rintro x2 w2 ⟨rfl, hb2⟩; have B2 := Lib.hid (below_step B1.out hb2); have R2 := Lib.hid (R1.out.below hb2 R1.out.lt); have E2 := Lib.hid hb2; have d5 := R2.out.cell (j := 5) rfl; have d6 := R2.out.cell (j := 6) rfl; clear hb2)
      | (refine wpList_load_g (by first | exact wanted_un rfl | exact wanted_yes rfl rfl rfl rfl | exact (wanted_is rfl rfl rfl rfl).trans (by simp; omega) | exact (wanted_is rfl rfl rfl rfl).trans (by simp)) 23 _ rfl w.heap.size 0 rfl [.string Sm, .string St, .int .i64 ss, .string Sr, .int .i64 mi] _ (range_front (T := [.slice A1 n1 c1, .slice A2 n2 c2]) R2.out) Tryz.underlying23 rfl HSi.out ?_)
      | (go_at_call 105; (with_reducible refine (RI.out _ E2.out).mono ?_); rintro x3 w3 ⟨rfl, hb3⟩; have B3 := Lib.hid (below_step B2.out hb3); have R3 := Lib.hid (R2.out.below hb3 R2.out.lt); have d5 := R3.out.cell (j := 5) rfl; have d6 := R3.out.cell (j := 6) rfl; clear hb3)
      | (go_at_call 106; (with_reducible refine (FA.out _ B3.out).mono ?_); rintro x4 w4 ⟨rfl, hb4⟩; have B4 := Lib.hid (below_step B3.out hb4); have R4 := Lib.hid (R3.out.below hb4 R3.out.lt); have d6 := R4.out.cell (j := 6) rfl; clear hb4))
    go_ret
    exact ⟨by rw [HV.out]; rfl, B3.out⟩
  cases fl
  · have HV : Hid (T = false) := Lib.hid (by rw [HT.out]; simp)
    go_enter Tryz.func72, Tryz.ntmps72
    go_wp2_with (first
      | (have _t := R1; refine wpList_load_g (wanted_un rfl) 27 _ rfl w.heap.size 0 rfl [.string Sm, .string St, .int .i64 ss, .string Sr, .int .i64 mi, .slice A1 n1 c1, .slice A2 n2 c2] _ (rangeOf R1.out) Tryz.underlying27 rfl HMi.out ?_)
      | (go_at_call 75; (with_reducible refine FR.out.mono ?_); rintro x2 w2 ⟨rfl, hb2⟩; have B2 := Lib.hid (below_step B1.out hb2); have R2 := Lib.hid (R1.out.below hb2 R1.out.lt); have E2 := Lib.hid hb2; have d5 := R2.out.cell (j := 5) rfl; have d6 := R2.out.cell (j := 6) rfl; clear hb2)
      | (refine wpList_load_g (by first | exact wanted_un rfl | exact wanted_yes rfl rfl rfl rfl | exact (wanted_is rfl rfl rfl rfl).trans (by simp; omega) | exact (wanted_is rfl rfl rfl rfl).trans (by simp)) 23 _ rfl w.heap.size 0 rfl [.string Sm, .string St, .int .i64 ss, .string Sr, .int .i64 mi] _ (range_front (T := [.slice A1 n1 c1, .slice A2 n2 c2]) R2.out) Tryz.underlying23 rfl HSi.out ?_)
      | (go_at_call 105; (with_reducible refine (RI.out _ E2.out).mono ?_); rintro x3 w3 ⟨rfl, hb3⟩; have B3 := Lib.hid (below_step B2.out hb3); have R3 := Lib.hid (R2.out.below hb3 R2.out.lt); have d5 := R3.out.cell (j := 5) rfl; have d6 := R3.out.cell (j := 6) rfl; clear hb3)
      | (go_at_call 106; (with_reducible refine (FA.out _ B3.out).mono ?_); rintro x4 w4 ⟨rfl, hb4⟩; have B4 := Lib.hid (below_step B3.out hb4); have R4 := Lib.hid (R3.out.below hb4 R3.out.lt); have d6 := R4.out.cell (j := 6) rfl; clear hb4))
    go_ret
    exact ⟨by rw [HV.out]; rfl, B4.out⟩
  by_cases he : fe ≠ 0
  · have n10 : (fe != 0) = true := by rw [bne_iff_ne]; exact he
    have HV : Hid (T = false) := Lib.hid (by rw [HT.out]; simp [he])
    clear he
    go_enter Tryz.func72, Tryz.ntmps72
    go_wp2_with (first
      | (have _t := R1; refine wpList_load_g (wanted_un rfl) 27 _ rfl w.heap.size 0 rfl [.string Sm, .string St, .int .i64 ss, .string Sr, .int .i64 mi, .slice A1 n1 c1, .slice A2 n2 c2] _ (rangeOf R1.out) Tryz.underlying27 rfl HMi.out ?_)
      | (go_at_call 75; (with_reducible refine FR.out.mono ?_); rintro x2 w2 ⟨rfl, hb2⟩; have B2 := Lib.hid (below_step B1.out hb2); have R2 := Lib.hid (R1.out.below hb2 R1.out.lt); have E2 := Lib.hid hb2; have d5 := R2.out.cell (j := 5) rfl; have d6 := R2.out.cell (j := 6) rfl; clear hb2)
      | (refine wpList_load_g (by first | exact wanted_un rfl | exact wanted_yes rfl rfl rfl rfl | exact (wanted_is rfl rfl rfl rfl).trans (by simp; omega) | exact (wanted_is rfl rfl rfl rfl).trans (by simp)) 23 _ rfl w.heap.size 0 rfl [.string Sm, .string St, .int .i64 ss, .string Sr, .int .i64 mi] _ (range_front (T := [.slice A1 n1 c1, .slice A2 n2 c2]) R2.out) Tryz.underlying23 rfl HSi.out ?_)
      | (go_at_call 105; (with_reducible refine (RI.out _ E2.out).mono ?_); rintro x3 w3 ⟨rfl, hb3⟩; have B3 := Lib.hid (below_step B2.out hb3); have R3 := Lib.hid (R2.out.below hb3 R2.out.lt); have d5 := R3.out.cell (j := 5) rfl; have d6 := R3.out.cell (j := 6) rfl; clear hb3)
      | (go_at_call 106; (with_reducible refine (FA.out _ B3.out).mono ?_); rintro x4 w4 ⟨rfl, hb4⟩; have B4 := Lib.hid (below_step B3.out hb4); have R4 := Lib.hid (R3.out.below hb4 R3.out.lt); have d6 := R4.out.cell (j := 6) rfl; clear hb4))
    go_ret
    exact ⟨by rw [HV.out]; rfl, B4.out⟩
  obtain rfl : fe = 0 := by omega
  clear he
  by_cases h2k : ki = 2
  · subst h2k
    have HV : Hid (T = decide (n2 ≤ 1048576)) := Lib.hid (by rw [HT.out]; simp)
    have q1 : decide ((n2 : Int) ≤ 1048576) = decide (n2 ≤ 1048576) := by rw [decide_eq_decide]; omega
    go_enter Tryz.func72, Tryz.ntmps72
    go_wp2_with (first
      | (have _t := R1; refine wpList_load_g (wanted_un rfl) 27 _ rfl w.heap.size 0 rfl [.string Sm, .string St, .int .i64 ss, .string Sr, .int .i64 mi, .slice A1 n1 c1, .slice A2 n2 c2] _ (rangeOf R1.out) Tryz.underlying27 rfl HMi.out ?_)
      | (go_at_call 75; (with_reducible refine FR.out.mono ?_); rintro x2 w2 ⟨rfl, hb2⟩; have B2 := Lib.hid (below_step B1.out hb2); have R2 := Lib.hid (R1.out.below hb2 R1.out.lt); have E2 := Lib.hid hb2; have d5 := R2.out.cell (j := 5) rfl; have d6 := R2.out.cell (j := 6) rfl; clear hb2)
      | (refine wpList_load_g (by first | exact wanted_un rfl | exact wanted_yes rfl rfl rfl rfl | exact (wanted_is rfl rfl rfl rfl).trans (by simp; omega) | exact (wanted_is rfl rfl rfl rfl).trans (by simp)) 23 _ rfl w.heap.size 0 rfl [.string Sm, .string St, .int .i64 ss, .string Sr, .int .i64 mi] _ (range_front (T := [.slice A1 n1 c1, .slice A2 n2 c2]) R2.out) Tryz.underlying23 rfl HSi.out ?_)
      | (go_at_call 105; (with_reducible refine (RI.out _ E2.out).mono ?_); rintro x3 w3 ⟨rfl, hb3⟩; have B3 := Lib.hid (below_step B2.out hb3); have R3 := Lib.hid (R2.out.below hb3 R2.out.lt); have d5 := R3.out.cell (j := 5) rfl; have d6 := R3.out.cell (j := 6) rfl; clear hb3)
      | (go_at_call 106; (with_reducible refine (FA.out _ B3.out).mono ?_); rintro x4 w4 ⟨rfl, hb4⟩; have B4 := Lib.hid (below_step B3.out hb4); have R4 := Lib.hid (R3.out.below hb4 R3.out.lt); have d6 := R4.out.cell (j := 6) rfl; clear hb4))
    go_ret
    exact ⟨by rw [HV.out]; first | rfl | simp, B4.out⟩
  have n2k : (ki == 2) = false := by rw [beq_eq_false_iff_ne]; exact h2k
  have HV : Hid (T = ((n2 : Int) == si)) := Lib.hid (by rw [HT.out, if_neg h2k, Bool.eq_iff_iff]; simp)
  clear h2k
  go_enter Tryz.func72, Tryz.ntmps72
  go_wp2_with (first
    | (have _t := R1; refine wpList_load_g (wanted_un rfl) 27 _ rfl w.heap.size 0 rfl [.string Sm, .string St, .int .i64 ss, .string Sr, .int .i64 mi, .slice A1 n1 c1, .slice A2 n2 c2] _ (rangeOf R1.out) Tryz.underlying27 rfl HMi.out ?_)
    | (go_at_call 75; (with_reducible refine FR.out.mono ?_); rintro x2 w2 ⟨rfl, hb2⟩; have B2 := Lib.hid (below_step B1.out hb2); have R2 := Lib.hid (R1.out.below hb2 R1.out.lt); have E2 := Lib.hid hb2; have d5 := R2.out.cell (j := 5) rfl; have d6 := R2.out.cell (j := 6) rfl; clear hb2)
    | (refine wpList_load_g (by first | exact wanted_un rfl | exact wanted_yes rfl rfl rfl rfl | exact (wanted_is rfl rfl rfl rfl).trans (by simp; omega) | exact (wanted_is rfl rfl rfl rfl).trans (by simp)) 23 _ rfl w.heap.size 0 rfl [.string Sm, .string St, .int .i64 ss, .string Sr, .int .i64 mi] _ (range_front (T := [.slice A1 n1 c1, .slice A2 n2 c2]) R2.out) Tryz.underlying23 rfl HSi.out ?_)
    | (go_at_call 105; (with_reducible refine (RI.out _ E2.out).mono ?_); rintro x3 w3 ⟨rfl, hb3⟩; have B3 := Lib.hid (below_step B2.out hb3); have R3 := Lib.hid (R2.out.below hb3 R2.out.lt); have d5 := R3.out.cell (j := 5) rfl; have d6 := R3.out.cell (j := 6) rfl; clear hb3)
    | (go_at_call 106; (with_reducible refine (FA.out _ B3.out).mono ?_); rintro x4 w4 ⟨rfl, hb4⟩; have B4 := Lib.hid (below_step B3.out hb4); have R4 := Lib.hid (R3.out.below hb4 R3.out.lt); have d6 := R4.out.cell (j := 6) rfl; clear hb4))
  go_ret
  exact ⟨by rw [HV.out]; first | rfl | simp, B4.out⟩
end Go.Proofs.YtniiadhhefgmcaaGreatDoor

/- Layer 6: start.Print, by the code. Condition: the start's texts are at most 10^9 octets long. -/
namespace Go.Proofs.YtniiadhhefgmcaaGreatDoor
open Go.RowKit IH
set_option maxRecDepth 100000
theorem join3 (a b c : List UInt8) : Lib.join [a, b, c] [32] = a ++ 32 :: (b ++ 32 :: c) := by
  simp [Lib.join, List.intercalate, List.intersperse]
theorem row3 {w : World} {g : Nat} {e : TypeId} {A B C : ByteArray} (h : RowAt w g e [.string A, .string B, .string C]) : ∀ (j : Nat) (x : ByteArray), [A, B, C][j]? = some x → w.cell? ⟨g, 0 + j, none⟩ = some (.string x) := by
  intro j x hx
  rw [Nat.zero_add]
  match j, hx with
  | 0, hx => (simp only [List.getElem?_cons_zero, Option.some.injEq] at hx; subst hx; exact h.cell rfl)
  | 1, hx => (simp only [List.getElem?_cons_succ, List.getElem?_cons_zero, Option.some.injEq] at hx; subst hx; exact h.cell rfl)
  | 2, hx => (simp only [List.getElem?_cons_succ, List.getElem?_cons_zero, Option.some.injEq] at hx; subst hx; exact h.cell rfl)
  | j + 3, hx => simp at hx
set_option maxHeartbeats 16000000 in
theorem sprint_any (s : Sta) (hs : StaB s) (hl0 : -9223372036854775808 ≤ s.status) (hl1 : -9223372036854775808 ≤ s.minor) (hzP : (printS s).length ≤ 1000000) (w : World) :
    Calls Tryz.prog 73 #[.agg (staC s).toArray] w fun e w' =>
      ((right6 s = false ∧ e = .returned (.tuple #[.slice none 0 0, .int .i64 10])) ∨
       (right6 s = true ∧ ∃ g n c, e = .returned (.tuple #[.slice (some ⟨g, 0, none⟩) n c, .int .i64 0]) ∧ g < w'.heap.size ∧ n = (printS s).length ∧ SliceIn w' w'.heap.size 1 (some ⟨g, 0, none⟩) n c (bytesV (printS s)))) ∧ Below w.heap.size w w' := by
  have P1 := fun w => Print_any s.minor 10 hl1 hs.mi w
  have P2 := fun w => Print_any s.status 10 hl0 hs.s1 w
  have RG := fun w => right6_any s hs.sta w
  have l1 := pN_len s.minor
  have l2 := pN_len s.status
  have lP := hzP
  obtain ⟨A, hA⟩ : ∃ S : ByteArray, (⟨(printN s.minor 10).toArray⟩ : ByteArray) = S := ⟨_, rfl⟩
  obtain ⟨B, hB⟩ : ∃ S : ByteArray, (⟨(printN s.status 10).toArray⟩ : ByteArray) = S := ⟨_, rfl⟩
  rw [hA] at P1
  rw [hB] at P2
  have zA : A.size ≤ 64 := by rw [← hA, size_mk]; exact l1
  have zB : B.size ≤ 64 := by rw [← hB, size_mk]; exact l2
  obtain ⟨M, hM⟩ : ∃ M : ByteArray, (⟨s.method.toArray⟩ : ByteArray) = M := ⟨_, rfl⟩
  obtain ⟨T, hT⟩ : ∃ M : ByteArray, (⟨s.target.toArray⟩ : ByteArray) = M := ⟨_, rfl⟩
  obtain ⟨R, hR⟩ : ∃ M : ByteArray, (⟨s.reason.toArray⟩ : ByteArray) = M := ⟨_, rfl⟩
  have zM : M.size ≤ 1000000000 := by rw [← hM, size_mk]; exact hs.m
  have zT : T.size ≤ 1000000000 := by rw [← hT, size_mk]; exact hs.t
  have zR : R.size ≤ 1000000000 := by rw [← hR, size_mk]; exact hs.r
  have dM : M.data.toList = s.method := by rw [← hM]
  have dT : T.data.toList = s.target := by rw [← hT]
  have dR : R.data.toList = s.reason := by rw [← hR]
  have dA : A.data.toList = printN s.minor 10 := by rw [← hA]
  have dB : B.data.toList = printN s.status 10 := by rw [← hB]
  obtain ⟨OUT, hOUT⟩ : ∃ O, printS s = O := ⟨_, rfl⟩
  rw [hOUT] at lP ⊢
  have HO := Lib.hid hOUT
  have HL := Lib.hid lP
  obtain ⟨ri, hri⟩ : ∃ x, right6 s = x := ⟨_, rfl⟩
  rw [hri] at RG ⊢
  unfold staC at RG ⊢
  rw [hM, hT, hR] at RG ⊢
  have DM := Lib.hid dM
  have DT := Lib.hid dT
  have DR := Lib.hid dR
  have DA := Lib.hid dA
  have DB := Lib.hid dB
  obtain ⟨st, hst⟩ : ∃ x, s.status = x := ⟨_, rfl⟩
  obtain ⟨mi, hmi⟩ : ∃ x, s.minor = x := ⟨_, rfl⟩
  have HST := Lib.hid hst
  rw [hst] at P2
  rw [hmi] at P1
  rw [hst, hmi] at RG ⊢
  have NW := Lib.hid (RowAt.new w 23 [.string M, .string T, .int .i64 st, .string R, .int .i64 mi])
  have NB := Lib.hid (below_al w (.cells #[.string M, .string T, .int .i64 st, .string R, .int .i64 mi] 23))
  replace P1 := Lib.hid P1
  replace P2 := Lib.hid P2
  replace RG := Lib.hid RG
  have d0 := NW.out.cell (j := 0) rfl
  have d1 := NW.out.cell (j := 1) rfl
  have d2 := NW.out.cell (j := 2) rfl
  have d3 := NW.out.cell (j := 3) rfl
  have d4 := NW.out.cell (j := 4) rfl
  clear hA hB hM hT hR dM dT dR dA dB hOUT lP hst hmi l1 l2 hs hri hl0 hl1 hzP
  cases ri with
  | false =>
    go_enter Tryz.func73, Tryz.ntmps73
    go_wp2_with (go_at_call 105; (with_reducible refine (RG.out _).mono ?_); rintro x2 w2 ⟨rfl, hb2⟩; have B2 := Lib.hid (below_step NB.out hb2); clear hb2)
    go_ret2
    exact ⟨.inl ⟨by first | rfl | trivial, rfl⟩, B2.out⟩
  | true =>
    go_enter Tryz.func73, Tryz.ntmps73
    go_upto_region 3 with (go_at_call 105; (with_reducible refine (RG.out _).mono ?_); rintro x2 w2 ⟨rfl, hb2⟩; have B2 := Lib.hid (below_step NB.out hb2); have R2 := Lib.hid (NW.out.below hb2 NW.out.lt); clear hb2)
    clear d0 d1 d2 d3 d4
    have c4 := R2.out.cell (j := 4) rfl
    go_upto_region 4 with (go_at_call 89; (with_reducible refine (P1.out _).mono ?_); rintro x3 w3 ⟨rfl, nq, hw3⟩; have B3 : Hid (Below w.heap.size w w3) := Lib.hid (by rw [hw3]; exact below_drewN B2.out nq); have R3 : Hid (RowAt w3 w.heap.size 23 [.string M, .string T, .int .i64 st, .string R, .int .i64 mi]) := Lib.hid (by rw [hw3]; exact R2.out.drewN nq); clear hw3 c4)
    obtain ⟨V, hV⟩ : ∃ V : ByteArray, (⟨#[72, 84, 84, 80, 47, 49, 46]⟩ : ByteArray) ++ A = V := ⟨_, rfl⟩
    have zV : V.size ≤ 71 := by rw [← hV, ← data_len, append_data, List.length_append, data_len A]; simp; omega
    have DV : Hid (V.data.toList = http1 ++ printN s.minor 10) := Lib.hid (by rw [← hV, append_data, DA.out]; rfl)
    rw [hV]
    clear hV zA
    go_cut [5] from 13 to 19 (fun s5 wx => ∃ g, s5 = .slice (some ⟨g, 0, none⟩) 3 3 ∧ RowAt wx g 9 [.string V, .string B, .string R] ∧ Below w3.heap.size w3 wx)
    case first =>
      refine wp_region_plan (fun W => Below w3.heap.size w3 W) [(0, true), (1, true), (2, true), (4, true), (5, true), (3, false), (6, false), (7, true)] (by kernel_rfl) (by kernel_rfl) rfl (by kernel_rfl) (below_drewN (Below.refl _ _) 1) ?_
      intro w1 hH
      iterate 5
        refine plan_take (v := ?_) rfl (by rfl) ?_ ?_
        rotate_left
        · intro w2 hSw
          have ra := R3.out.below hSw R3.out.lt
          have x2 := ra.cell (j := 2) rfl
          have x3 := ra.cell (j := 3) rfl
          clear ra
          clear hSw
          go_simp
          try with_reducible rfl
        try simp only [Act.put, List.setIfInBounds_toArray, List.set_cons_zero, List.set_cons_succ]
      refine plan_move rfl (by rfl) (fun K hK => ?_)
      go_simp
      (with_reducible refine (P2.out _).mono ?_)
      rintro e w5 ⟨rfl, nq, rfl⟩
      refine hK.out _ _ (below_drewN hH.out nq) ?_
      clear hH hK K
      intro hH
      try simp only [Act.put, List.setIfInBounds_toArray, List.set_cons_zero, List.set_cons_succ]
      refine plan_move rfl (by rfl) (fun K hK => ?_)
      go_simp
      refine hK.out _ _ (hH.out.alloc hH.out.size _) ?_
      have FB := Lib.hid (row_at hH 9 [.string V, .string B, .string R])
      clear hH hK K
      intro hH
      try simp only [Act.put, List.setIfInBounds_toArray, List.set_cons_zero, List.set_cons_succ]
      iterate 1
        refine plan_take (v := ?_) rfl (by rfl) ?_ ?_
        rotate_left
        · intro w2 hSw
          have ra := R3.out.below hSw R3.out.lt
          have x2 := ra.cell (j := 2) rfl
          have x3 := ra.cell (j := 3) rfl
          clear ra
          clear hSw
          go_simp
          try with_reducible rfl
        try simp only [Act.put, List.setIfInBounds_toArray, List.set_cons_zero, List.set_cons_succ]
      refine plan_done ?_
      go_wp2_with fail
      go_meet
      exact ⟨_, rfl, FB.out, hH.out⟩
    case rest =>
      obtain ⟨w4, hw4⟩ : ∃ W : World, W = wc := ⟨_, rfl⟩
      subst hw4
      obtain ⟨g5, rfl, hr5, hb4⟩ := hcut
      have B4 := Lib.hid (below_step B3.out hb4)
      have R4 := Lib.hid (R3.out.below hb4 R3.out.lt)
      have c0 := R4.out.cell (j := 0) rfl
      have c1 := R4.out.cell (j := 1) rfl
      have c2 := R4.out.cell (j := 2) rfl
      have RV := Lib.hid hr5
      clear hr5 hb4
      by_cases h0 : st = 0
      · have e0 : (st == 0) = true := by rw [beq_iff_eq]; exact h0
        have HP : Hid (OUT = s.method ++ 32 :: (s.target ++ 32 :: (http1 ++ printN s.minor 10 ++ [13, 10]))) := Lib.hid (by rw [← HO.out]; unfold printS; rw [if_pos (by rw [HST.out]; exact h0)])
        clear h0
        have NV := Lib.hid (RowAt.new w4 9 [.string M, .string T, .string V])
        have hz3 : (Lib.join (List.map (fun x : ByteArray => x.data.toList) [M, T, V]) (⟨#[32]⟩ : ByteArray).data.toList) = M.data.toList ++ 32 :: (T.data.toList ++ 32 :: V.data.toList) := join3 _ _ _
        have hzl : (Lib.join (List.map (fun x : ByteArray => x.data.toList) [M, T, V]) (⟨#[32]⟩ : ByteArray).data.toList).length ≤ 3000000000 := by rw [hz3]; simp only [List.length_append, List.length_cons, data_len]; omega
        have JN := Tryz.strings_Join w4.heap.size 0 3 [M, T, V] ⟨#[32]⟩ (w4.alloc (.cells #[.string M, .string T, .string V] 9)) (row3 NV.out) NV.out.lt (by show 3 ≤ _; decide) (by show 3 ≤ 3; decide) (by omega)
        rw [show ([M, T, V] : List ByteArray).length = 3 from rfl] at JN
        obtain ⟨J, hJ⟩ : ∃ J : ByteArray, (⟨(Lib.join (List.map (fun x : ByteArray => x.data.toList) [M, T, V]) (⟨#[32]⟩ : ByteArray).data.toList).toArray⟩ : ByteArray) = J := ⟨_, rfl⟩
        have dJ : J.data.toList = M.data.toList ++ 32 :: (T.data.toList ++ 32 :: V.data.toList) := by rw [← hJ, ← hz3]
        have zJ : J.size ≤ 3000000000 := by rw [← data_len, dJ, ← hz3]; exact hzl
        rw [hJ] at JN
        have dO : (J ++ (⟨#[13, 10]⟩ : ByteArray)).data.toList = OUT := by
          rw [append_data, dJ, HP.out]
          rw [DM.out, DT.out, DV.out]
          simp [http1]
        have HJN := Lib.hid JN
        have HDO := Lib.hid dO
        have tokA : Hid True := Lib.hid trivial
        clear hz3 hzl JN hJ dJ dO
        go_wp2_with (first
          | (have _t := tokA; go_at_call 107; (with_reducible refine HJN.out.mono ?_); rintro e w5 ⟨rfl, hb5⟩; have B5 := Lib.hid (below_step (B4.out.alloc B4.out.size (.cells #[.string M, .string T, .string V] 9)) hb5); clear hb5 tokA _t)
          | (refine wpList_conv rfl 9 25 5 _ (J ++ (⟨#[13, 10]⟩ : ByteArray)) OUT.length rfl rfl Tryz.underlying9 Tryz.underlying25 Tryz.underlying5 (by rw [← data_len, HDO.out]) (by have := HL.out; omega) ?_; intro g6 c6 w6 hs6 hg6 hb6; rw [HDO.out] at hs6; have B6 := Lib.hid (below_step B5.out hb6); have S6 := Lib.hid hs6; have G6 := Lib.hid hg6; clear hs6 hg6 hb6))
        go_ret2
        exact ⟨.inr ⟨by first | rfl | trivial, _, _, _, rfl, G6.out, rfl, S6.out⟩, B6.out⟩
      · have e0 : (st == 0) = false := by rw [beq_eq_false_iff_ne]; exact h0
        have HP : Hid (OUT = http1 ++ printN s.minor 10 ++ 32 :: (printN s.status 10 ++ 32 :: (s.reason ++ [13, 10]))) := Lib.hid (by rw [← HO.out]; unfold printS; rw [if_neg (by rw [HST.out]; exact h0)])
        have NV := RV
        clear h0
        have hz3 : (Lib.join (List.map (fun x : ByteArray => x.data.toList) [V, B, R]) (⟨#[32]⟩ : ByteArray).data.toList) = V.data.toList ++ 32 :: (B.data.toList ++ 32 :: R.data.toList) := join3 _ _ _
        have hzl : (Lib.join (List.map (fun x : ByteArray => x.data.toList) [V, B, R]) (⟨#[32]⟩ : ByteArray).data.toList).length ≤ 3000000000 := by rw [hz3]; simp only [List.length_append, List.length_cons, data_len]; omega
        have JN := Tryz.strings_Join g5 0 3 [V, B, R] ⟨#[32]⟩ w4 (row3 NV.out) NV.out.lt (by show 3 ≤ _; decide) (by show 3 ≤ 3; decide) (by omega)
        rw [show ([V, B, R] : List ByteArray).length = 3 from rfl] at JN
        obtain ⟨J, hJ⟩ : ∃ J : ByteArray, (⟨(Lib.join (List.map (fun x : ByteArray => x.data.toList) [V, B, R]) (⟨#[32]⟩ : ByteArray).data.toList).toArray⟩ : ByteArray) = J := ⟨_, rfl⟩
        have dJ : J.data.toList = V.data.toList ++ 32 :: (B.data.toList ++ 32 :: R.data.toList) := by rw [← hJ, ← hz3]
        have zJ : J.size ≤ 3000000000 := by rw [← data_len, dJ, ← hz3]; exact hzl
        rw [hJ] at JN
        have dO : (J ++ (⟨#[13, 10]⟩ : ByteArray)).data.toList = OUT := by
          rw [append_data, dJ, HP.out]
          rw [DV.out, DB.out, DR.out]
          simp [http1]
        have HJN := Lib.hid JN
        have HDO := Lib.hid dO
        have tokA : Hid True := Lib.hid trivial
        clear hz3 hzl JN hJ dJ dO
        go_wp2_with (first
          | (have _t := tokA; go_at_call 107; (with_reducible refine HJN.out.mono ?_); rintro e w5 ⟨rfl, hb5⟩; have B5 := Lib.hid (below_step B4.out hb5); clear hb5 tokA _t)
          | (refine wpList_conv rfl 9 25 5 _ (J ++ (⟨#[13, 10]⟩ : ByteArray)) OUT.length rfl rfl Tryz.underlying9 Tryz.underlying25 Tryz.underlying5 (by rw [← data_len, HDO.out]) (by have := HL.out; omega) ?_; intro g6 c6 w6 hs6 hg6 hb6; rw [HDO.out] at hs6; have B6 := Lib.hid (below_step B5.out hb6); have S6 := Lib.hid hs6; have G6 := Lib.hid hg6; clear hs6 hg6 hb6))
        go_ret2
        exact ⟨.inr ⟨by first | rfl | trivial, _, _, _, rfl, G6.out, rfl, S6.out⟩, B6.out⟩
end Go.Proofs.YtniiadhhefgmcaaGreatDoor

/- slices.Grow of nothing, and slices.Concat, at octets. Conditions: at most 10^6 pieces, of at most 10^7 octets together. -/
namespace Go.Proofs.YtniiadhhefgmcaaGreatDoor
open Go.RowKit IH
set_option maxRecDepth 100000
theorem wpList_append_zeros {P : Program} {w : World} {ops : Array Oper} {rest : List Oper} {o : Oper} {a : Act} {Q : Exit → Act → World → Prop} {t u e : TypeId} (hgd : o.guard = none) (s x : Operand) (ho : o.op = .call { callee := .builtin .append, args := #[s, x], argTypes := #[t, u] })
    (ht : P.underlying t = some (.slice e)) (hu : P.underlying u = some (.int .i64)) (hie : (P.info? e).map (fun i => (i.zero, i.size, i.bytes)) = some (some (.int .u8 0), 1, 1)) (n : Nat) (h0 : 0 < n) (hn : n ≤ 100000000) (hs : a.eval s = .slice none 0 0) (hx : a.eval x = .int .i64 n)
    (h : ∀ g cap w', w'.ownsRow w.heap.size e 1 (.slice (some ⟨g, 0, none⟩) 0 cap) 0 [] → n ≤ cap → cap ≤ maxLen → Below w.heap.size w w' → wpList P ops Q rest (a.put o.dst (.slice (some ⟨g, 0, none⟩) n cap)) w') : wpList P ops Q (o :: rest) a w := by
  obtain ⟨i, hi, hz, hsz, hby⟩ := info_parts hie
  have hge := grownCap_ge w n 0 e
  have hcm : grownCap w n 0 e ≤ maxLen := grownCap_le_maxLen w n 0 e (by simp only [maxLen]; omega)
  have hw : IntKind.i64.wrap (n : Int) = (n : Int) := IntWalk.i64_in _ ⟨by omega, by omega⟩
  have h1 : ¬ ((n : Int) < 0) := by omega
  have h2 : ¬ (281474976710656 < (n : Int)) := by omega
  have h4 : ¬ (9223372036854775807 < (n : Int)) := by omega
  have h5 : ¬ (281474976710656 < Builtin.nextslicecap n 0) := by rw [nextslicecap_zero h0]; omega
  have h6 : n ≠ 0 := by omega
  have hrun : ∃ cur : Array Value, cur.size = grownCap w n 0 e ∧ (Builtin.append_ #[t, u] o.type #[.slice none 0 0, .int .i64 n]).run P w = .ok (.slice (some ⟨w.heap.size, 0, none⟩) n (grownCap w n 0 e)) (w.drew.alloc (.cells cur e)) := by
    refine ⟨Builtin.zeroCells (Value.int IntKind.u8 0).cells n ++ Builtin.zeroCells (Value.int IntKind.u8 0).cells (grownCap w n 0 e - n), ?_, ?_⟩
    · have hz1 : (Value.int IntKind.u8 0).cells.size = 1 := rfl
      simp only [Array.size_append, size_zeroCells, hz1]
      omega
    · simp [Builtin.append_, run_underlying ht, run_underlying hu, sizeOf, typeInfo, zeroValue, hi, hz, hsz, hby, hw, h1, h2, h4, h5, h6, asInt, asIntOf, Question.forced, run_firstCells_none, newRow, grownCap]
  obtain ⟨cur, hcur, hrun⟩ := hrun
  refine wpList_plain hgd fun K hK => ?_
  unfold Oper.wp execOp
  simp only [ho, resolve, invoke, builtin, Sem.run_bind, Sem.run_pure, Result.andThen_ok, List.map_toArray, List.map_cons, List.map_nil, hs, hx, hrun]
  exact hK _ _ (h _ _ _ (World.ownsRow_made (base := w.heap.size) w.drew cur _ (Nat.le_refl _) hcm (by rw [hcur, Nat.mul_one])) hge hcm ((below_drewN (Below.refl _ _) 1).alloc (Nat.le_refl _) _))
theorem total_snoc {L : List (List UInt8)} {k : Nat} {p : List UInt8} (h : L[k]? = some p) : IH.total (L.take (k + 1)) = IH.total (L.take k) + p.length := by
  rw [List.take_add_one, h]
  simp [IH.total]
theorem flat_snoc {L : List (List UInt8)} {k : Nat} {p : List UInt8} (h : L[k]? = some p) : (L.take (k + 1)).flatten = (L.take k).flatten ++ p := by
  rw [List.take_add_one, h]; simp
theorem flat_len (L : List (List UInt8)) : L.flatten.length = IH.total L := by simp [IH.total, List.length_flatten]
set_option maxHeartbeats 4000000 in
theorem grow_any (n : Nat) (hn : n ≤ 100000000) (w : World) :
    Calls Tryz.prog 113 #[.slice none 0 0, .int .i64 n] w fun e w' => ∃ v, e = .returned v ∧ w'.ownsRow w.heap.size 5 1 v 0 [] ∧ Below w.heap.size w w' := by
  have h1 : ¬ ((n : Int) < 0) := by omega
  have hw : IntKind.i64.wrap (n : Int) = (n : Int) := IntWalk.i64_in _ ⟨by omega, by omega⟩
  by_cases h0 : n = 0
  · subst h0
    go_enter Tryz.func113, Tryz.ntmps113
    go_wp2
    go_ret
    exact ⟨_, rfl, World.ownsRow_nil _ _ _ _, Below.refl _ _⟩
  · have h0' : 0 < n := by omega
    have h0I : (0 : Int) < (n : Int) := by omega
    have H0 := Lib.hid h0'
    clear h0 h0'
    go_enter Tryz.func113, Tryz.ntmps113
    go_wp2_with (at_builtin; refine wpList_append_zeros rfl _ _ rfl Tryz.underlying25 Tryz.underlying3 (by kernel_rfl) n H0.out hn rfl rfl ?_; intro g cap w2 hown hnc hcm hb2; have O2 := Lib.hid hown; have B2 := Lib.hid hb2; have z1 : (0 : Int) ≤ (cap : Int) := (by omega); clear hown hb2)
    go_ret
    exact ⟨_, rfl, O2.out, B2.out⟩
set_option maxHeartbeats 8000000 in
theorem concat_any (A : Option Addr) (n c : Nat) (L : List (List UInt8)) (V : List Value) (w : World) (hin : SliceIn w w.heap.size 1 A n c V) (hR : PiecesR w w.heap.size L V) (hn : n ≤ 1000000) (ht : IH.total L ≤ 10000000) :
    Calls Tryz.prog 77 #[.slice A n c] w fun e w' => ∃ v, e = .returned v ∧ w'.ownsRow w.heap.size 5 1 v L.flatten.length (bytesV L.flatten) ∧ Below w.heap.size w w' := by
  have hL : L.length = n := by have h1 := hin.1; have h2 := hR.1; omega
  have hnc := hin.2.1
  have GR := Lib.hid (grow_any (IH.total L) (by omega) w)
  have Hin := Lib.hid hin
  have HR := Lib.hid hR
  have HL := Lib.hid hL
  have HT := Lib.hid ht
  clear hin hR hL ht
  go_enter Tryz.func77, Tryz.ntmps77
  go_wp2
  go_loopw [3, 11] (fun sz i wr => ∃ k : Nat, i = .int .i64 k ∧ k ≤ n ∧ sz = .int .i64 (IH.total (L.take k)) ∧ w = wr) (fun _ i _ => n - (intOf i).toNat)
  case atStart => exact ⟨0, rfl, by omega, by simp [IH.total], by first | rfl | trivial⟩
  case round =>
    obtain ⟨k, rfl, hk, rfl, hwr⟩ := hrel
    subst hwr
    have htk := total_take L k
    by_cases hlt : k < n
    · obtain ⟨p, hp⟩ : ∃ p, L[k]? = some p := ⟨_, List.getElem?_eq_getElem (by rw [HL.out]; exact hlt)⟩
      obtain ⟨b, off, A', c', rfl, hb, hcell, hs⟩ := piece_at Hin.out HR.out hp
      have hsn := total_snoc hp
      have htk2 := total_take L (k + 1)
      have HN := Lib.hid hsn
      obtain ⟨tk, htkE⟩ : ∃ x, IH.total (L.take k) = x := ⟨_, rfl⟩
      obtain ⟨pl, hpl⟩ : ∃ x, p.length = x := ⟨_, rfl⟩
      have hsm : tk + pl ≤ 10000000 := by have := HT.out; omega
      rw [htkE, hpl] at HN
      rw [hpl] at hcell
      rw [htkE]
      have hadd : IntKind.i64.wrap ((tk : Int) + (pl : Int)) = (tk : Int) + (pl : Int) := IntWalk.i64_in _ ⟨by omega, by omega⟩
      have hneg : ¬ ((tk : Int) + (pl : Int) < 0) := by omega
      clear hsn hp hs hb htk htk2 htkE hpl
      go_wp2
      go_roundw
      case rel => exact ⟨k + 1, by go_num, by omega, by rw [HN.out]; go_num, by first | rfl | trivial⟩
      case measure => simp [intOf]; omega
    · obtain rfl : k = n := by omega
      rw [List.take_of_length_le (by rw [HL.out]; exact Nat.le_refl _)]
      clear hlt htk
      go_wp2_with (go_at_call 113; (with_reducible refine GR.out.mono ?_); rintro e w2 ⟨v2, rfl, ho2, hb2⟩; have O2 := Lib.hid ho2; have B2 := Lib.hid hb2; clear ho2 hb2)
      go_loopw [6, 27] (fun v i wr => ∃ k' : Nat, i = .int .i64 k' ∧ k' ≤ k ∧ wr.ownsRow w.heap.size 5 1 v (L.take k').flatten.length (bytesV (L.take k').flatten) ∧ Below w.heap.size w wr) (fun _ i _ => k - (intOf i).toNat)
      case atStart => exact ⟨0, rfl, by omega, by simpa [bytesV] using O2.out, B2.out⟩
      case round =>
        obtain ⟨j, rfl, hj, hown, hbel⟩ := hrel
        have Hown := Lib.hid hown
        have Hbel := Lib.hid hbel
        have hlen : (L.take j).flatten.length ≤ 10000000 := by rw [flat_len]; have := total_take L j; have := HT.out; omega
        have hB0 := Hbel.out.size
        clear hown hbel
        by_cases hlt : j < k
        · obtain ⟨p, hp⟩ : ∃ p, L[j]? = some p := ⟨_, List.getElem?_eq_getElem (by rw [HL.out]; exact hlt)⟩
          obtain ⟨b, off, A', c', rfl, hb, hcell, hs⟩ := piece_at (Hin.out.below Hbel.out) (HR.out.below Hbel.out) hp
          have hsn := flat_snoc hp
          have hpl := total_get hp
          have hpb : p.length ≤ 10000000 := by have := HT.out; omega
          have HS := Lib.hid hs
          have HN := Lib.hid hsn
          obtain ⟨O, hO⟩ : ∃ O, (L.take j).flatten = O := ⟨_, rfl⟩
          rw [hO] at Hown hlen HN
          clear hsn hpl hs hb hO
          obtain ⟨pn, hpn⟩ : ∃ pn, p.length = pn := ⟨_, rfl⟩
          rw [hpn] at HS hcell hpb
          have HE := Lib.hid (show O.length + pn = (O ++ p).length by rw [← hpn]; exact List.length_append.symm)
          clear hpn
          go_wp2_with (at_builtin; refine wpList_appS u8_ty rfl _ _ rfl w.heap.size _ _ _ rfl Hown.out w.heap.size _ _ _ _ rfl HS.out (bytesV_one _) (by omega) (by simp only [maxLen]; omega) hB0 ?_; intro v4 w4 hown4 hgr4; rw [← bytesV_append] at hown4; have O4 := Lib.hid (own_count hown4 HE.out); have B4 := Lib.hid (Hbel.out.grown hgr4 hB0 (fun g hg => (Hown.out.lt g hg).1)); clear hown4 hgr4)
          go_roundw
          case rel =>
            refine ⟨j + 1, by go_num, by omega, ?_, B4.out⟩
            rw [HN.out]
            exact O4.out
          case measure => simp [intOf]; omega
        · obtain rfl : j = k := by omega
          rw [List.take_of_length_le (by rw [HL.out]; exact Nat.le_refl _)] at Hown
          clear hlt
          go_wp2
          go_ret
          exact ⟨_, rfl, Hown.out, Hbel.out⟩
end Go.Proofs.YtniiadhhefgmcaaGreatDoor

/- Layer 8: message.Print, by the code. Conditions: the lists are within bounds. Printed by mkmpr.py. -/
namespace Go.Proofs.YtniiadhhefgmcaaGreatDoor
open Go.RowKit IH
set_option maxRecDepth 100000
theorem three_pieces {w : World} {A1 A2 A3 : Option Addr} {n1 n2 n3 c1 c2 c3 B : Nat} {p q r : List UInt8} (h1 : SliceIn w B 1 A1 n1 c1 (bytesV p)) (h2 : SliceIn w B 1 A2 n2 c2 (bytesV q)) (h3 : SliceIn w B 1 A3 n3 c3 (bytesV r)) : PiecesR w B [p, q, r] [.slice A1 n1 c1, .slice A2 n2 c2, .slice A3 n3 c3] := by
  refine ⟨rfl, fun i l h => ?_⟩
  match i, h with
  | 0, h => (simp only [List.getElem?_cons_zero, Option.some.injEq] at h; subst h; exact ⟨A1, n1, c1, rfl, h1⟩)
  | 1, h => (simp only [List.getElem?_cons_succ, List.getElem?_cons_zero, Option.some.injEq] at h; subst h; exact ⟨A2, n2, c2, rfl, h2⟩)
  | 2, h => (simp only [List.getElem?_cons_succ, List.getElem?_cons_zero, Option.some.injEq] at h; subst h; exact ⟨A3, n3, c3, rfl, h3⟩)
  | i + 3, h => simp at h
set_option maxHeartbeats 16000000 in
theorem mprint_any (s : Sta) (hs : StaB s) (hl0 : -9223372036854775808 ≤ s.status) (hl1 : -9223372036854775808 ≤ s.minor) (L : List Fld) (X : List UInt8) (A1 A2 : Option Addr) (n1 n2 c1 c2 : Nat) (M : ByteArray) (w : World) (h1 : SliceIn w w.heap.size 2 A1 n1 c1 (fldsV L)) (h2 : SliceIn w w.heap.size 1 A2 n2 c2 (bytesV X)) (hb : FldB L n1) (hzS : (printS s).length ≤ 1000000) (hzL : sizeL L ≤ 1000000) (hx : n2 ≤ 1000000) :
    Calls Tryz.prog 32 #[.agg (msgC s (.slice A1 n1 c1) (.slice A2 n2 c2)).toArray, .string M] w fun e w' =>
      ((rightM ⟨s, L, X⟩ M.data.toList = false ∧ e = .returned (.tuple #[.slice none 0 0, .int .i64 10])) ∨
       (rightM ⟨s, L, X⟩ M.data.toList = true ∧ ∃ v, e = .returned (.tuple #[v, .int .i64 0]) ∧ w'.ownsRow w.heap.size 5 1 v (printM ⟨s, L, X⟩ M.data.toList).length (bytesV (printM ⟨s, L, X⟩ M.data.toList)))) ∧ Below w.heap.size w w' := by
  have HSi : Hid ((Tryz.prog.info? 23).map (·.size) = some 5) := Lib.hid (by kernel_rfl)
  have HMi : Hid ((Tryz.prog.info? 27).map (·.size) = some 7) := Lib.hid (by kernel_rfl)
  have hX : X.length = n2 := by have := h2.1; rw [bytesV_length] at this; omega
  have hc2 := h2.2.1
  have hc3 := h2.2.2.1
  obtain ⟨Sm, St, Sr, hs5, hsm⟩ := msg_cells s
  obtain ⟨ss, hss⟩ : ∃ x, s.status = x := ⟨_, rfl⟩
  obtain ⟨mi, hmi⟩ : ∃ x, s.minor = x := ⟨_, rfl⟩
  obtain ⟨w1, hw1⟩ : ∃ W : World, w.alloc (.cells (msgC s (.slice A1 n1 c1) (.slice A2 n2 c2)).toArray 27) = W := ⟨_, rfl⟩
  have B1 : Hid (Below w.heap.size w w1) := Lib.hid (by rw [← hw1]; exact (Below.refl _ _).alloc (Nat.le_refl _) _)
  have R1 : Hid (RowAt w1 w.heap.size 27 (msgC s (.slice A1 n1 c1) (.slice A2 n2 c2))) := Lib.hid (by rw [← hw1]; exact RowAt.new w 27 _)
  have RG := Lib.hid (fun (W : World) (hW : Below w.heap.size w W) => mright_any s hs.sta L X A1 A2 n1 n2 c1 c2 M W ((h1.below hW).more hW.size) ((h2.below hW).more hW.size) hb)
  have FR := Lib.hid (fun (W : World) (hW : Below w.heap.size w W) => mframing_any s A1 n1 c1 L (.slice A2 n2 c2) M W ((h1.below hW).more hW.size) hb)
  have SP := Lib.hid (fun (W : World) => sprint_any s hs hl0 hl1 hzS W)
  have FP := Lib.hid (fun (W : World) (hW : Below w.heap.size w W) => fprint_any A1 n1 c1 L W ((h1.below hW).more hW.size) hb.n hb.f)
  have H2 := Lib.hid h2
  have hPr : printM ⟨s, L, X⟩ M.data.toList = [printS s, printL L, if (framingL s L M.data.toList).1 = 2 then encL [X] else X].flatten := by unfold printM; simp
  have HP := Lib.hid hPr
  have HzS := Lib.hid hzS
  have HzL : Hid ((printL L).length ≤ 1000000) := Lib.hid (by rw [printL_size]; exact hzL)
  have HXl := Lib.hid hX
  have hrp : rightM ⟨s, L, X⟩ M.data.toList = true → right6 s = true ∧ faultL L = 0 := fun h => ⟨(right_parts h).1, (right_parts h).2.1⟩
  obtain ⟨T, hT⟩ : ∃ T, rightM ⟨s, L, X⟩ M.data.toList = T := ⟨_, rfl⟩
  simp only [hT] at RG hrp ⊢
  simp only [hsm, hs5, hss, hmi] at hw1 R1 RG FR SP ⊢
  have HRP := Lib.hid hrp
  clear hs hb hT hsm hs5 hss hmi h1 h2 hX hPr hzS hzL hrp hl0 hl1
  cases T with
  | false =>
    clear HRP SP FP FR
    go_enter Tryz.func32, Tryz.ntmps32
    go_wp2_with (first
      | (refine wpList_load_g (by first | exact wanted_un rfl | exact wanted_yes rfl rfl rfl rfl | exact (wanted_is rfl rfl rfl rfl).trans (by simp; omega) | exact (wanted_is rfl rfl rfl rfl).trans (by simp)) 27 _ rfl w.heap.size 0 rfl [.string Sm, .string St, .int .i64 ss, .string Sr, .int .i64 mi, .slice A1 n1 c1, .slice A2 n2 c2] _ (rangeOf R1.out) Tryz.underlying27 rfl HMi.out ?_)
      | (go_at_call 72; (with_reducible refine (RG.out _ B1.out).mono ?_); rintro x2 w2 ⟨rfl, hb2⟩; have B2 := Lib.hid (below_step B1.out hb2); clear hb2))
    go_ret2
    exact ⟨.inl ⟨by first | rfl | trivial, rfl⟩, B2.out⟩
  | true =>
    obtain ⟨h6, hf0⟩ := HRP.out rfl
    have H6 := Lib.hid h6
    have HF0 := Lib.hid hf0
    clear HRP h6 hf0
    go_enter Tryz.func32, Tryz.ntmps32
    go_upto_region 6 with (first
      | (have _t := R1; refine wpList_load_g (by first | exact wanted_un rfl | exact wanted_yes rfl rfl rfl rfl | exact (wanted_is rfl rfl rfl rfl).trans (by simp; omega) | exact (wanted_is rfl rfl rfl rfl).trans (by simp)) 27 _ rfl w.heap.size 0 rfl [.string Sm, .string St, .int .i64 ss, .string Sr, .int .i64 mi, .slice A1 n1 c1, .slice A2 n2 c2] _ (rangeOf R1.out) Tryz.underlying27 rfl HMi.out ?_)
      | (go_at_call 72; (with_reducible refine (RG.out _ B1.out).mono ?_); rintro x2 w2 ⟨rfl, hb2⟩; have B2 := Lib.hid (below_step B1.out hb2); have R2 := Lib.hid (R1.out.below hb2 R1.out.lt); clear hb2 R1)
      | (refine wpList_load_g (by first | exact wanted_un rfl | exact wanted_yes rfl rfl rfl rfl | exact (wanted_is rfl rfl rfl rfl).trans (by simp; omega) | exact (wanted_is rfl rfl rfl rfl).trans (by simp)) 23 _ rfl w.heap.size 0 rfl [.string Sm, .string St, .int .i64 ss, .string Sr, .int .i64 mi] _ (range_front (T := [.slice A1 n1 c1, .slice A2 n2 c2]) R2.out) Tryz.underlying23 rfl HSi.out ?_)
      | (go_at_call 73; (with_reducible refine (SP.out _).mono ?_); rintro x3 w3 ⟨h3, hb3⟩; obtain ⟨g3, m3, c3, rfl, -, hm3, hs3⟩ : ∃ g n c, x3 = .returned (.tuple #[.slice (some ⟨g, 0, none⟩) n c, .int .i64 0]) ∧ g < w3.heap.size ∧ n = (printS s).length ∧ SliceIn w3 w3.heap.size 1 (some ⟨g, 0, none⟩) n c (bytesV (printS s)) := (h3.elim (fun q => absurd (q.1.symm.trans H6.out) (by decide)) (fun q => q.2)); have B3 := Lib.hid (below_step B2.out hb3); have R3 := Lib.hid (R2.out.below hb3 R2.out.lt); have S3 := Lib.hid hs3; have e5 := R3.out.cell (j := 5) rfl; clear hb3 h3 hs3 hm3)
      | (go_at_call 74; (with_reducible refine (FP.out _ B3.out).mono ?_); rintro x4 w4 ⟨v4, rfl, ho4, hb4⟩; rw [if_pos HF0.out] at ho4; obtain ⟨A4, c4, rfl, hs4⟩ := own_slice ho4; have B4 := Lib.hid (below_step B3.out hb4); have R4 := Lib.hid (R3.out.below hb4 R3.out.lt); have S4 := Lib.hid hs4; have S3b := Lib.hid ((S3.out.below hb4).more hb4.size); have e6 := R4.out.cell (j := 6) rfl; clear hb4 ho4 hs4 S3 e5))
    clear SP FP RG B1 B2 B3 R2 R3 e6
    obtain ⟨lL, hlL⟩ : ∃ x, (printL L).length = x := ⟨_, rfl⟩
    have HlL := Lib.hid hlL
    rw [hlL] at S4
    simp only [hlL]
    clear hlL
    go_upto_if 40 with (first
      | (refine wpList_load_g (by first | exact wanted_un rfl | exact wanted_yes rfl rfl rfl rfl | exact (wanted_is rfl rfl rfl rfl).trans (by simp; omega) | exact (wanted_is rfl rfl rfl rfl).trans (by simp)) 27 _ rfl w.heap.size 0 rfl [.string Sm, .string St, .int .i64 ss, .string Sr, .int .i64 mi, .slice A1 n1 c1, .slice A2 n2 c2] _ (rangeOf R4.out) Tryz.underlying27 rfl HMi.out ?_)
      | (go_at_call 75; (with_reducible refine (FR.out _ B4.out).mono ?_); rintro x5 w5 ⟨rfl, hb5⟩; have B5 := Lib.hid (below_step B4.out hb5); have R5 := Lib.hid (R4.out.below hb5 R4.out.lt); have S5 := Lib.hid ((S4.out.below hb5).more hb5.size); have S3c := Lib.hid ((S3b.out.below hb5).more hb5.size); clear hb5))
    clear FR B4 R4 S4 S3b
    obtain ⟨bo, hbo⟩ : ∃ x, (if (framingL s L M.data.toList).1 = 2 then encL [X] else X) = x := ⟨_, rfl⟩
    have HP2 : Hid (printM ⟨s, L, X⟩ M.data.toList = [printS s, printL L, bo].flatten) := Lib.hid (by rw [HP.out, hbo])
    have hbl : bo.length ≤ 1000020 := by
      rw [← hbo]
      split
      · have h5 := encL_len8 [X] (fun p hp => by rw [List.mem_singleton.1 hp, HXl.out]; omega)
        have h6 : IH.total [X] = X.length := by simp [IH.total]
        have := HXl.out
        simp only [List.length_cons, List.length_nil] at h5
        omega
      · have := HXl.out; omega
    have HBL := Lib.hid hbl
    clear HP hbl
    obtain ⟨kb, hkb⟩ : ∃ x, ((framingL s L M.data.toList).1 == 2) = x := ⟨_, rfl⟩
    simp only [hkb]
    have Hkb := Lib.hid hkb
    have Hbo := Lib.hid hbo
    clear hkb hbo
    go_cut [10] from 41 to 44 (fun s10 wx => ∃ A c, s10 = .slice A bo.length c ∧ SliceIn wx wx.heap.size 1 A bo.length c (bytesV bo) ∧ Below w5.heap.size w5 wx)
    case first =>
      cases kb
      · have hbo : X = bo := by
          have h := Hkb.out
          rw [beq_eq_false_iff_ne] at h
          have h2 := Hbo.out
          rw [if_neg h] at h2
          exact h2
        have S2 := Lib.hid ((H2.out.below B5.out).more B5.out.size)
        rw [hbo] at S2
        have hl : bo.length = n2 := by rw [← hbo]; exact HXl.out
        have HL2 := Lib.hid hl
        clear hbo hl
        go_wp2_with fail
        go_meet
        exact ⟨A2, c2, by rw [HL2.out], by rw [HL2.out]; exact S2.out, Below.refl _ _⟩
      · have hbo : encL [X] = bo := by
          have h := Hkb.out
          rw [beq_iff_eq] at h
          have h2 := Hbo.out
          rw [if_pos h] at h2
          exact h2
        have EN : ∀ W A n c V, SliceIn W W.heap.size 1 A n c V → PiecesR W W.heap.size [X] V → n ≤ 1000000 → _ := fun W A n c V h1 h2 h3 => enc_any A n c [X] V W h1 h2 h3 (by simp only [IH.total, List.map_cons, List.map_nil, List.sum_cons, List.sum_nil]; have := HXl.out; omega)
        simp only [hbo] at EN
        have HEN := Lib.hid EN
        have e6 := R5.out.cell (j := 6) rfl
        have S2 := Lib.hid ((H2.out.below B5.out).more B5.out.size)
        clear EN hbo
        go_wp2_with (go_at_call 76; (with_reducible refine (HEN.out _ _ _ _ [.slice A2 n2 c2] ((RowAt.new w5 25 [.slice A2 n2 c2]).slice (size := 1) (n := 1) (c := 1) rfl (Nat.le_refl _) (by simp [maxLen])) (piece_one ((S2.out.alloc (Nat.le_refl _) _).more (by simp))) (by decide)).mono ?_); rintro x6 w6 ⟨v6, rfl, ho6, hb6⟩; obtain ⟨A6, c6, rfl, hs6⟩ := own_slice ho6; have B6 := Lib.hid (below_step ((Below.refl w5.heap.size w5).alloc (Nat.le_refl _) (.cells #[.slice A2 n2 c2] 25)) hb6); have S6 := Lib.hid hs6; clear hb6 ho6 hs6)
        go_meet
        exact ⟨_, _, rfl, S6.out, B6.out⟩
    case rest =>
      obtain ⟨w6, hw6⟩ : ∃ W : World, W = wc := ⟨_, rfl⟩
      subst hw6
      obtain ⟨A6, c6, rfl, hs6, hb6⟩ := hcut
      have B6 := Lib.hid (below_step B5.out hb6)
      have S6 := Lib.hid hs6
      have S5b := Lib.hid ((S5.out.below hb6).more hb6.size)
      have S3d := Lib.hid ((S3c.out.below hb6).more hb6.size)
      clear hs6 hb6 S5 S3c
      have hTot : IH.total [printS s, printL L, bo] ≤ 10000000 := by
        simp only [IH.total, List.map_cons, List.map_nil, List.sum_cons, List.sum_nil]
        have := HzS.out; have := HzL.out; have := HBL.out; omega
      have CC := Lib.hid (fun (W : World) (h1 : SliceIn W W.heap.size 1 (some ⟨w6.heap.size, 0, none⟩) 3 3 [.slice (some ⟨g3, 0, none⟩) m3 c3, .slice A4 lL c4, .slice A6 bo.length c6]) (h2 : PiecesR W W.heap.size [printS s, printL L, bo] [.slice (some ⟨g3, 0, none⟩) m3 c3, .slice A4 lL c4, .slice A6 bo.length c6]) => concat_any _ 3 3 _ _ W h1 h2 (by decide) hTot)
      clear hTot
      go_wp2_with (go_at_call 77; (with_reducible refine (CC.out _ ((RowAt.new w6 25 [.slice (some ⟨g3, 0, none⟩) m3 c3, .slice A4 lL c4, .slice A6 bo.length c6]).slice (size := 1) (n := 3) (c := 3) rfl (Nat.le_refl _) (by simp [maxLen])) (three_pieces ((S3d.out.alloc (Nat.le_refl _) _).more (by simp)) ((S5b.out.alloc (Nat.le_refl _) _).more (by simp)) ((S6.out.alloc (Nat.le_refl _) _).more (by simp)))).mono ?_); rintro x7 w7 ⟨v7, rfl, ho7, hb7⟩; have B7 := Lib.hid (below_step (B6.out.alloc B6.out.size (.cells #[.slice (some ⟨g3, 0, none⟩) m3 c3, .slice A4 lL c4, .slice A6 bo.length c6] 25)) hb7); have O7 := Lib.hid ho7; clear hb7 ho7)
      go_ret2
      refine ⟨.inr ⟨by first | rfl | trivial, _, rfl, ?_⟩, B7.out⟩
      rw [HP2.out]
      exact own_low O7.out (by have := B6.out.size; simp; omega)
end Go.Proofs.YtniiadhhefgmcaaGreatDoor
