/- Layer 8: how a message is framed, by the document. Condition: its fields' own (FldB). Printed by mkmes3.py. -/
import Derived.Test.YtniiadhhefgmcaaGreatDoorMz
import Derived.Test.YtniiadhhefgmcaaGreatDoorFq
import Derived.Test.YtniiadhhefgmcaaGreatDoorOct6
namespace IH
theorem getL_low {a b : List UInt8} (h : lower a = lower b) (L : List Fld) : getL L a = getL L b := by
  unfold getL isN
  rw [h]
end IH
namespace Go.Proofs.YtniiadhhefgmcaaGreatDoor
open Go.RowKit IH
set_option maxRecDepth 100000
theorem first_drew {w wr : World} {q : Nat} (h : wr = w.drewN q) : ∃ q', wr.drew = w.drewN q' := ⟨q + 1, by rw [h]; rfl⟩
set_option maxHeartbeats 32000000 in
theorem rframing_any (s : Sta) (A : Option Addr) (n c : Nat) (L : List Fld) (Bd : Value) (M : ByteArray) (w : World) (hin : SliceIn w w.heap.size 2 A n c (fldsV L)) (hb : FldB L n) :
    Calls Tryz.prog 34 #[.agg (msgC s (.slice A n c) Bd).toArray, .string M] w fun e w' => e = .returned (.tuple #[.int .i64 (framingL s L M.data.toList).1, .int .i64 (framingL s L M.data.toList).2.1, .int .i64 (framingL s L M.data.toList).2.2]) ∧ Below w.heap.size w w' := by
  obtain ⟨C, hC⟩ : ∃ C, msgC s (.slice A n c) Bd = C := ⟨_, rfl⟩
  have h2 : C[2]? = some (.int .i64 s.status) := by rw [← hC]; rfl
  have h4 : C[4]? = some (.int .i64 s.minor) := by rw [← hC]; rfl
  have h5 : C[5]? = some (.slice A n c) := by rw [← hC]; rfl
  rw [hC]
  obtain ⟨R, hR⟩ : ∃ R, framingL s L M.data.toList = R := ⟨_, rfl⟩
  rw [hR]
  rw [framing_eq] at hR
  obtain ⟨w1, hw1⟩ : ∃ W, w.alloc (.cells C.toArray 27) = W := ⟨_, rfl⟩
  have B1 : Hid (Below w.heap.size w w1) := Lib.hid (by rw [← hw1]; exact (Below.refl _ _).alloc (Nat.le_refl _) _)
  have R1 : Hid (RowAt w1 w.heap.size 27 C) := Lib.hid (by rw [← hw1]; exact RowAt.new w 27 C)
  have GT := fun W (hW : Below w.heap.size w W) => refGet_any A n c L ⟨#[84, 114, 97, 110, 115, 102, 101, 114, 45, 69, 110, 99, 111, 100, 105, 110, 103]⟩ W ((hin.below hW).more hW.size) hb.n hb.f (by decide)
  have GC := fun W (hW : Below w.heap.size w W) => refGet_any A n c L ⟨#[67, 111, 110, 116, 101, 110, 116, 45, 76, 101, 110, 103, 116, 104]⟩ W ((hin.below hW).more hW.size) hb.n hb.f (by decide)
  rw [getL_low (a := (⟨#[84, 114, 97, 110, 115, 102, 101, 114, 45, 69, 110, 99, 111, 100, 105, 110, 103]⟩ : ByteArray).data.toList) (b := teN) (by decide)] at GT
  rw [getL_low (a := (⟨#[67, 111, 110, 116, 101, 110, 116, 45, 76, 101, 110, 103, 116, 104]⟩ : ByteArray).data.toList) (b := clN) (by decide)] at GC
  have htT := hb.get teN
  have htC := hb.get clN
  have hspT : ∀ x ∈ splitL (getL L teN), x.length ≤ 1000000000 := fun x hx => hb.split hx
  have hspC : ∀ x ∈ splitL (getL L clN), x.length ≤ 1000000000 := fun x hx => hb.split hx
  have hlenC : (splitL (getL L clN)).length ≤ 1000000000 := Nat.le_trans (splitL_length _) htC
  unfold codedR sizedR at hR
  obtain ⟨X, hX⟩ : ∃ X, getL L teN = X := ⟨_, rfl⟩
  obtain ⟨Y, hY⟩ : ∃ X, getL L clN = X := ⟨_, rfl⟩
  rw [hX] at GT htT hspT hR
  rw [hY] at GC htC hspC hlenC hR
  have SPT := fun W A' c' (hs : SliceIn W W.heap.size 1 A' X.length c' (strsV X)) => refSplit_any A' X.length c' X W hs htT
  have SPC := fun W A' c' (hs : SliceIn W W.heap.size 1 A' Y.length c' (strsV Y)) => refSplit_any A' Y.length c' Y W hs htC
  obtain ⟨Q, hQ⟩ : ∃ Q, splitL X = Q := ⟨_, rfl⟩
  obtain ⟨T, hT⟩ : ∃ Q, splitL Y = Q := ⟨_, rfl⟩
  rw [hQ] at SPT hspT hR
  rw [hT] at SPC hspC hlenC hR
  obtain ⟨st, hst⟩ : ∃ x, s.status = x := ⟨_, rfl⟩
  obtain ⟨mi, hmi⟩ : ∃ x, s.minor = x := ⟨_, rfl⟩
  rw [hst] at hR h2
  rw [hmi] at hR h4
  obtain ⟨tb, htb⟩ : ∃ b, decide (st ≠ 0 ∧ bareM st M.data.toList = true) = b := ⟨_, rfl⟩
  have HTB := Lib.hid htb
  have hRb : R = if tb = true then (0, 0, 0) else if X ≠ [] then ((if mi = 0 ∨ Y ≠ [] ∨ Q.length ≠ 1 ∨ Q.map lower ≠ [chunkedN] then ((0 : Int), (10 : Int)) else (2, 0)).1, 0, (if mi = 0 ∨ Y ≠ [] ∨ Q.length ≠ 1 ∨ Q.map lower ≠ [chunkedN] then ((0 : Int), (10 : Int)) else (2, 0)).2) else if Y ≠ [] then (match T with
    | [] => (0, 0, 10)
    | x :: l => if (l.all fun y => y == x) = false then (0, 0, 10) else if (numR 10 1048576 x).2 ≠ 0 then (0, 0, (numR 10 1048576 x).2) else (1, (numR 10 1048576 x).1, 0)) else if st = 0 then (0, 0, 0) else (0, 0, 10) := by
    rw [← hR, ← htb]
    by_cases h : st ≠ 0 ∧ bareM st M.data.toList = true
    · rw [if_pos h, decide_eq_true h, if_pos rfl]
    · rw [if_neg h, decide_eq_false h, if_neg (show ¬ (false = true) by simp)]
      rfl
  have HR := Lib.hid hRb
  replace GT := Lib.hid GT
  replace GC := Lib.hid GC
  replace SPT := Lib.hid SPT
  replace SPC := Lib.hid SPC
  have H2 := Lib.hid h2
  have H4 := Lib.hid h4
  have H5 := Lib.hid h5
  have d2 := R1.out.cell (j := 2) h2
  have d5 := R1.out.cell (j := 5) h5
  clear hC h2 h4 h5 hin hb hR hRb hX hY hQ hT hst hmi htT htC htb
  go_enter Tryz.func34, Tryz.ntmps34
  go_upto_region 1 with fail
  go_cut [39] from 14 to 39 (fun s9 wx => s9 = .bool tb ∧ wx = w1)
  case first =>
    have q0 : (M.data.toList == headN) = (M.toList == [72, 69, 65, 68]) := by rw [ByteArray.toList_eq]; rfl
    have hb0 := HTB.out
    unfold bareM at hb0
    rw [q0] at hb0
    obtain ⟨b0, h0⟩ : ∃ b, (M.toList == [72, 69, 65, 68]) = b := ⟨_, rfl⟩
    rw [h0] at hb0
    have HB0 := Lib.hid hb0
    clear hb0 q0
    by_cases hz : st = 0
    · have e0 : (st == 0) = true := by rw [beq_iff_eq]; exact hz
      have e1 : (st != 0) = false := by rw [bne, e0]; rfl
      have HT9 : Hid (tb = false) := Lib.hid (by rw [← HB0.out]; simp [hz])
      clear hz
      go_wp2_with fail
      go_meet
      exact ⟨by rw [HT9.out], rfl⟩
    · have e0 : (st == 0) = false := by rw [beq_eq_false_iff_ne]; exact hz
      have e1 : (st != 0) = true := by rw [bne, e0]; rfl
      cases b0 with
      | true =>
        have HT9 : Hid (tb = true) := Lib.hid (by rw [← HB0.out]; simp [hz])
        clear hz
        go_wp2_with fail
        go_meet
        exact ⟨by rw [HT9.out], rfl⟩
      | false =>
        by_cases h200 : st < 200
        · have HT9 : Hid (tb = true) := Lib.hid (by rw [← HB0.out]; simp [hz, h200])
          clear hz
          go_wp2_with fail
          go_meet
          exact ⟨by rw [HT9.out], rfl⟩
        · by_cases h204 : st = 204
          · have f0 : (st == 204) = true := by rw [beq_iff_eq]; exact h204
            have HT9 : Hid (tb = true) := Lib.hid (by rw [← HB0.out]; simp [h204])
            clear hz h204
            go_wp2_with fail
            go_meet
            exact ⟨by rw [HT9.out], rfl⟩
          · have f0 : (st == 204) = false := by rw [beq_eq_false_iff_ne]; exact h204
            by_cases h304 : st = 304
            · have g0 : (st == 304) = true := by rw [beq_iff_eq]; exact h304
              have HT9 : Hid (tb = true) := Lib.hid (by rw [← HB0.out]; simp [h304])
              clear hz h204 h304
              go_wp2_with fail
              go_meet
              exact ⟨by rw [HT9.out], rfl⟩
            · have g0 : (st == 304) = false := by rw [beq_eq_false_iff_ne]; exact h304
              have HT9 : Hid (tb = false) := Lib.hid (by rw [← HB0.out]; simp [h200, h204, h304])
              clear hz h204 h304
              go_wp2_with fail
              go_meet
              exact ⟨by rw [HT9.out], rfl⟩
  case rest =>
    obtain ⟨rfl, hwc⟩ := hcut
    subst wc
    cases tb with
    | true =>
      have HV : Hid (R = (0, 0, 0)) := Lib.hid (by rw [HR.out, if_pos rfl])
      go_wp2_with fail
      go_ret3
      exact ⟨by rw [HV.out]; rfl, B1.out⟩
    | false =>
      have HR2 := HR.out
      rw [if_neg (by simp)] at HR2
      have tok1 : True := trivial
      by_cases hx0 : X ≠ []
      · have xl : 0 < X.length := List.length_pos_iff.2 hx0
        rw [if_pos hx0] at HR2
        by_cases hm0 : mi = 0
        · have m0 : (mi == 0) = true := by rw [beq_iff_eq]; exact hm0
          have HV : Hid (R = (0, 0, 10)) := Lib.hid (by rw [HR2]; rw [if_pos (.inl hm0)])
          clear hx0 hm0 HR2 hspT hspC hlenC
          go_wp2_with (first
            | (have _t := tok1; go_at_call 79; (with_reducible refine (GT.out _ B1.out).mono ?_); rintro x2 w2 ⟨v2, rfl, ho2, hb2⟩; obtain ⟨A2, c2, rfl, hs2⟩ := own_slice ho2; have B2 := Lib.hid (below_step B1.out hb2); have R2 := Lib.hid (R1.out.below hb2 R1.out.lt); have d5 := R2.out.cell (j := 5) H5.out; have S2 := Lib.hid hs2; clear tok1 hb2 ho2 hs2; have tok2 : True := trivial)
            | (have _t := tok2; go_at_call 79; (with_reducible refine (GC.out _ B2.out).mono ?_); rintro x3 w3 ⟨v3, rfl, ho3, hb3⟩; obtain ⟨A3, c3, rfl, hs3⟩ := own_slice ho3; have B3 := Lib.hid (below_step B2.out hb3); have R3 := Lib.hid (R2.out.below hb3 R2.out.lt); have d2 := R3.out.cell (j := 2) H2.out; have d4 := R3.out.cell (j := 4) H4.out; have S3 := Lib.hid hs3; replace S2 := Lib.hid ((S2.out.below hb3).more hb3.size); clear tok2 hb3 ho3 hs3; have tok3 : True := trivial)
            | (have _t := tok3; go_at_call 80; (with_reducible refine (SPT.out _ _ _ S2.out).mono ?_); rintro x4 w4 ⟨v4, rfl, ho4, hb4⟩; obtain ⟨A4, c4, rfl, hs4⟩ := own_slice ho4; have B4 := Lib.hid (below_step B3.out hb4); have d4 := (R3.out.below hb4 R3.out.lt).cell (j := 4) H4.out; have S4 := Lib.hid hs4; clear tok3 hb4 ho4 hs4))
          go_ret3
          exact ⟨by rw [HV.out]; rfl, B4.out⟩
        · have m0 : (mi == 0) = false := by rw [beq_eq_false_iff_ne]; exact hm0
          by_cases hy0 : Y ≠ []
          · have yl : 0 < Y.length := List.length_pos_iff.2 hy0
            have HV : Hid (R = (0, 0, 10)) := Lib.hid (by rw [HR2]; rw [if_pos (.inr (.inl hy0))])
            clear hx0 hm0 hy0 HR2 hspT hspC hlenC
            go_wp2_with (first
              | (have _t := tok1; go_at_call 79; (with_reducible refine (GT.out _ B1.out).mono ?_); rintro x2 w2 ⟨v2, rfl, ho2, hb2⟩; obtain ⟨A2, c2, rfl, hs2⟩ := own_slice ho2; have B2 := Lib.hid (below_step B1.out hb2); have R2 := Lib.hid (R1.out.below hb2 R1.out.lt); have d5 := R2.out.cell (j := 5) H5.out; have S2 := Lib.hid hs2; clear tok1 hb2 ho2 hs2; have tok2 : True := trivial)
              | (have _t := tok2; go_at_call 79; (with_reducible refine (GC.out _ B2.out).mono ?_); rintro x3 w3 ⟨v3, rfl, ho3, hb3⟩; obtain ⟨A3, c3, rfl, hs3⟩ := own_slice ho3; have B3 := Lib.hid (below_step B2.out hb3); have R3 := Lib.hid (R2.out.below hb3 R2.out.lt); have d2 := R3.out.cell (j := 2) H2.out; have d4 := R3.out.cell (j := 4) H4.out; have S3 := Lib.hid hs3; replace S2 := Lib.hid ((S2.out.below hb3).more hb3.size); clear tok2 hb3 ho3 hs3; have tok3 : True := trivial)
              | (have _t := tok3; go_at_call 80; (with_reducible refine (SPT.out _ _ _ S2.out).mono ?_); rintro x4 w4 ⟨v4, rfl, ho4, hb4⟩; obtain ⟨A4, c4, rfl, hs4⟩ := own_slice ho4; have B4 := Lib.hid (below_step B3.out hb4); have d4 := (R3.out.below hb4 R3.out.lt).cell (j := 4) H4.out; have S4 := Lib.hid hs4; clear tok3 hb4 ho4 hs4))
            go_ret3
            exact ⟨by rw [HV.out]; rfl, B4.out⟩
          · have yl : ¬ 0 < Y.length := by (have h : Y = [] := by simpa using hy0); rw [h]; simp
            by_cases hq : Q.length = 1
            · match Q, hq with
              | [x], _ =>
                have hx := hspT x (by simp)
                have LW := fun w => refLower_any ⟨x.toArray⟩ (by rw [size_mk]; exact hx) w
                obtain ⟨Sx, hSx⟩ : ∃ S : ByteArray, (⟨x.toArray⟩ : ByteArray) = S := ⟨_, rfl⟩
                obtain ⟨Z, hZ⟩ : ∃ S : ByteArray, (⟨(lower x).toArray⟩ : ByteArray) = S := ⟨_, rfl⟩
                have dSx : Sx.data.toList = x := by rw [← hSx]
                have q0 : (Z.toList == [99, 104, 117, 110, 107, 101, 100]) = decide (lower x = chunkedN) := by rw [lit_eq, ← hZ]; rfl
                rw [hSx, dSx, hZ] at LW
                have HSx := Lib.hid hSx
                replace LW := Lib.hid LW
                clear hx hSx hZ dSx hspT hspC hlenC
                by_cases hl : lower x = chunkedN
                · have z0 : (Z.toList == [99, 104, 117, 110, 107, 101, 100]) = true := by rw [q0]; exact decide_eq_true hl
                  have z1 : (Z.toList != [99, 104, 117, 110, 107, 101, 100]) = false := by rw [bne, z0]; rfl
                  have HV : Hid (R = (2, 0, 0)) := Lib.hid (by rw [HR2]; rw [if_neg (by rintro (h | h | h | h); exact hm0 h; exact hy0 h; exact h rfl; exact h (by rw [List.map_singleton, hl]))])
                  clear hx0 hm0 hy0 hl q0 HR2
                  go_wp2_with (first
                    | (have _t := tok1; go_at_call 79; (with_reducible refine (GT.out _ B1.out).mono ?_); rintro x2 w2 ⟨v2, rfl, ho2, hb2⟩; obtain ⟨A2, c2, rfl, hs2⟩ := own_slice ho2; have B2 := Lib.hid (below_step B1.out hb2); have R2 := Lib.hid (R1.out.below hb2 R1.out.lt); have d5 := R2.out.cell (j := 5) H5.out; have S2 := Lib.hid hs2; clear tok1 hb2 ho2 hs2; have tok2 : True := trivial)
                    | (have _t := tok2; go_at_call 79; (with_reducible refine (GC.out _ B2.out).mono ?_); rintro x3 w3 ⟨v3, rfl, ho3, hb3⟩; obtain ⟨A3, c3, rfl, hs3⟩ := own_slice ho3; have B3 := Lib.hid (below_step B2.out hb3); have R3 := Lib.hid (R2.out.below hb3 R2.out.lt); have d2 := R3.out.cell (j := 2) H2.out; have d4 := R3.out.cell (j := 4) H4.out; have S3 := Lib.hid hs3; replace S2 := Lib.hid ((S2.out.below hb3).more hb3.size); clear tok2 hb3 ho3 hs3; have tok3 : True := trivial)
                    | (have _t := tok3; go_at_call 80; (with_reducible refine (SPT.out _ _ _ S2.out).mono ?_); rintro x4 w4 ⟨v4, rfl, ho4, hb4⟩; obtain ⟨A4, c4, rfl, hs4⟩ := own_slice ho4; have B4 := Lib.hid (below_step B3.out hb4); have d4 := (R3.out.below hb4 R3.out.lt).cell (j := 4) H4.out; have S4 := Lib.hid hs4; clear tok3 hb4 ho4 hs4; obtain ⟨bq, oq, hA4, _, hcq⟩ := str_one S4.out; subst hA4; rw [HSx.out] at hcq)
                    | (go_at_call 67; (with_reducible refine (LW.out _).mono ?_); rintro x5 w5 ⟨rfl, hb5⟩; have B5 := Lib.hid (below_step B4.out hb5); clear hb5))
                  go_ret3
                  exact ⟨by rw [HV.out]; rfl, B5.out⟩
                · have z0 : (Z.toList == [99, 104, 117, 110, 107, 101, 100]) = false := by rw [q0]; exact decide_eq_false hl
                  have z1 : (Z.toList != [99, 104, 117, 110, 107, 101, 100]) = true := by rw [bne, z0]; rfl
                  have HV : Hid (R = (0, 0, 10)) := Lib.hid (by rw [HR2]; rw [if_pos (.inr (.inr (.inr (by rw [List.map_singleton]; intro h; exact hl (by simpa using h)))))])
                  clear hx0 hm0 hy0 hl q0 HR2
                  go_wp2_with (first
                    | (have _t := tok1; go_at_call 79; (with_reducible refine (GT.out _ B1.out).mono ?_); rintro x2 w2 ⟨v2, rfl, ho2, hb2⟩; obtain ⟨A2, c2, rfl, hs2⟩ := own_slice ho2; have B2 := Lib.hid (below_step B1.out hb2); have R2 := Lib.hid (R1.out.below hb2 R1.out.lt); have d5 := R2.out.cell (j := 5) H5.out; have S2 := Lib.hid hs2; clear tok1 hb2 ho2 hs2; have tok2 : True := trivial)
                    | (have _t := tok2; go_at_call 79; (with_reducible refine (GC.out _ B2.out).mono ?_); rintro x3 w3 ⟨v3, rfl, ho3, hb3⟩; obtain ⟨A3, c3, rfl, hs3⟩ := own_slice ho3; have B3 := Lib.hid (below_step B2.out hb3); have R3 := Lib.hid (R2.out.below hb3 R2.out.lt); have d2 := R3.out.cell (j := 2) H2.out; have d4 := R3.out.cell (j := 4) H4.out; have S3 := Lib.hid hs3; replace S2 := Lib.hid ((S2.out.below hb3).more hb3.size); clear tok2 hb3 ho3 hs3; have tok3 : True := trivial)
                    | (have _t := tok3; go_at_call 80; (with_reducible refine (SPT.out _ _ _ S2.out).mono ?_); rintro x4 w4 ⟨v4, rfl, ho4, hb4⟩; obtain ⟨A4, c4, rfl, hs4⟩ := own_slice ho4; have B4 := Lib.hid (below_step B3.out hb4); have d4 := (R3.out.below hb4 R3.out.lt).cell (j := 4) H4.out; have S4 := Lib.hid hs4; clear tok3 hb4 ho4 hs4; obtain ⟨bq, oq, hA4, _, hcq⟩ := str_one S4.out; subst hA4; rw [HSx.out] at hcq)
                    | (go_at_call 67; (with_reducible refine (LW.out _).mono ?_); rintro x5 w5 ⟨rfl, hb5⟩; have B5 := Lib.hid (below_step B4.out hb5); clear hb5))
                  go_ret3
                  exact ⟨by rw [HV.out]; rfl, B5.out⟩
            · have q1 : ((Q.length : Int) != 1) = true := by rw [bne_iff_ne]; omega
              have HV : Hid (R = (0, 0, 10)) := Lib.hid (by rw [HR2]; rw [if_pos (.inr (.inr (.inl hq)))])
              obtain ⟨ql, hql⟩ : ∃ k, Q.length = k := ⟨_, rfl⟩
              rw [hql] at q1 SPT
              clear hx0 hm0 hy0 hq HR2 hspT hspC hlenC hql HR
              go_wp2_with (first
                | (have _t := tok1; go_at_call 79; (with_reducible refine (GT.out _ B1.out).mono ?_); rintro x2 w2 ⟨v2, rfl, ho2, hb2⟩; obtain ⟨A2, c2, rfl, hs2⟩ := own_slice ho2; have B2 := Lib.hid (below_step B1.out hb2); have R2 := Lib.hid (R1.out.below hb2 R1.out.lt); have d5 := R2.out.cell (j := 5) H5.out; have S2 := Lib.hid hs2; clear tok1 hb2 ho2 hs2; have tok2 : True := trivial)
                | (have _t := tok2; go_at_call 79; (with_reducible refine (GC.out _ B2.out).mono ?_); rintro x3 w3 ⟨v3, rfl, ho3, hb3⟩; obtain ⟨A3, c3, rfl, hs3⟩ := own_slice ho3; have B3 := Lib.hid (below_step B2.out hb3); have R3 := Lib.hid (R2.out.below hb3 R2.out.lt); have d2 := R3.out.cell (j := 2) H2.out; have d4 := R3.out.cell (j := 4) H4.out; have S3 := Lib.hid hs3; replace S2 := Lib.hid ((S2.out.below hb3).more hb3.size); clear tok2 hb3 ho3 hs3; have tok3 : True := trivial)
                | (have _t := tok3; go_at_call 80; (with_reducible refine (SPT.out _ _ _ S2.out).mono ?_); rintro x4 w4 ⟨v4, rfl, ho4, hb4⟩; obtain ⟨A4, c4, rfl, hs4⟩ := own_slice ho4; have B4 := Lib.hid (below_step B3.out hb4); have d4 := (R3.out.below hb4 R3.out.lt).cell (j := 4) H4.out; have S4 := Lib.hid hs4; clear tok3 hb4 ho4 hs4))
              go_ret3
              exact ⟨by rw [HV.out]; rfl, B4.out⟩
      · have xl : ¬ 0 < X.length := by (have h : X = [] := by simpa using hx0); rw [h]; simp
        rw [if_neg hx0] at HR2
        by_cases hy0 : Y ≠ []
        · have yl : 0 < Y.length := List.length_pos_iff.2 hy0
          rw [if_pos hy0] at HR2
          cases T with
          | nil =>
            have HV : Hid (R = (0, 0, 10)) := Lib.hid (by rw [HR2]; skip)
            clear hx0 hy0 HR2 hspT hspC hlenC
            go_wp2_with (first
              | (have _t := tok1; go_at_call 79; (with_reducible refine (GT.out _ B1.out).mono ?_); rintro x2 w2 ⟨v2, rfl, ho2, hb2⟩; obtain ⟨A2, c2, rfl, hs2⟩ := own_slice ho2; have B2 := Lib.hid (below_step B1.out hb2); have R2 := Lib.hid (R1.out.below hb2 R1.out.lt); have d5 := R2.out.cell (j := 5) H5.out; have S2 := Lib.hid hs2; clear tok1 hb2 ho2 hs2; have tok2 : True := trivial)
              | (have _t := tok2; go_at_call 79; (with_reducible refine (GC.out _ B2.out).mono ?_); rintro x3 w3 ⟨v3, rfl, ho3, hb3⟩; obtain ⟨A3, c3, rfl, hs3⟩ := own_slice ho3; have B3 := Lib.hid (below_step B2.out hb3); have R3 := Lib.hid (R2.out.below hb3 R2.out.lt); have d2 := R3.out.cell (j := 2) H2.out; have d4 := R3.out.cell (j := 4) H4.out; have S3 := Lib.hid hs3; replace S2 := Lib.hid ((S2.out.below hb3).more hb3.size); clear tok2 hb3 ho3 hs3; have tok3 : True := trivial)
              | (have _t := tok3; go_at_call 80; (with_reducible refine (SPC.out _ _ _ S3.out).mono ?_); rintro x4 w4 ⟨v4, rfl, ho4, hb4⟩; obtain ⟨A4, c4, rfl, hs4⟩ := own_slice ho4; have B4 := Lib.hid (below_step B3.out hb4); have S4 := Lib.hid hs4; clear tok3 hb4 ho4 hs4))
            go_ret3
            exact ⟨by rw [HV.out]; rfl, B4.out⟩
          | cons x l =>
            have hx := hspC x (by simp)
            have NU := fun w => refNumber10_any ⟨x.toArray⟩ (by rw [size_mk]; exact hx) 1048576 (by omega) (by omega) w
            obtain ⟨Sx, hSx⟩ : ∃ S : ByteArray, (⟨x.toArray⟩ : ByteArray) = S := ⟨_, rfl⟩
            have dSx : Sx.data.toList = x := by rw [← hSx]
            rw [hSx, dSx] at NU
            obtain ⟨nv, ne, hN⟩ : ∃ p q, numR 10 1048576 x = (p, q) := ⟨_, _, rfl⟩
            rw [hN] at NU
            simp only [hN] at NU HR2
            have HSx := Lib.hid hSx
            have HDX := Lib.hid dSx
            obtain ⟨k0, hk0⟩ : ∃ k, (x :: l).length = k := ⟨_, rfl⟩
            have kpos : 0 < k0 := by rw [← hk0, List.length_cons]; omega
            have hk9 : k0 ≤ 1000000000 := by omega
            rw [hk0] at SPC
            have z0 : ((k0 : Int) == 0) = false := by rw [beq_eq_false_iff_ne]; omega
            have HK0 := Lib.hid hk0
            have HR3 := Lib.hid HR2
            replace NU := Lib.hid NU
            clear hx hspT hspC hlenC hSx dSx hk0 HR2 hx0 hy0
            go_wp2_with (first
              | (have _t := tok1; go_at_call 79; (with_reducible refine (GT.out _ B1.out).mono ?_); rintro x2 w2 ⟨v2, rfl, ho2, hb2⟩; obtain ⟨A2, c2, rfl, hs2⟩ := own_slice ho2; have B2 := Lib.hid (below_step B1.out hb2); have R2 := Lib.hid (R1.out.below hb2 R1.out.lt); have d5 := R2.out.cell (j := 5) H5.out; have S2 := Lib.hid hs2; clear tok1 hb2 ho2 hs2; have tok2 : True := trivial)
              | (have _t := tok2; go_at_call 79; (with_reducible refine (GC.out _ B2.out).mono ?_); rintro x3 w3 ⟨v3, rfl, ho3, hb3⟩; obtain ⟨A3, c3, rfl, hs3⟩ := own_slice ho3; have B3 := Lib.hid (below_step B2.out hb3); have R3 := Lib.hid (R2.out.below hb3 R2.out.lt); have d2 := R3.out.cell (j := 2) H2.out; have d4 := R3.out.cell (j := 4) H4.out; have S3 := Lib.hid hs3; replace S2 := Lib.hid ((S2.out.below hb3).more hb3.size); clear tok2 hb3 ho3 hs3; have tok3 : True := trivial)
              | (have _t := tok3; go_at_call 80; (with_reducible refine (SPC.out _ _ _ S3.out).mono ?_); rintro x4 w4 ⟨v4, rfl, ho4, hb4⟩; obtain ⟨A4, c4, rfl, hs4⟩ := own_slice ho4; have B4 := Lib.hid (below_step B3.out hb4); have S4 := Lib.hid hs4; clear tok3 hb4 ho4 hs4; obtain ⟨bq, oq, hA4, hbq, hcq⟩ := str_first S4.out; subst hA4; rw [HSx.out] at hcq; replace hbq := Lib.hid hbq))
            have CQ : Hid (∀ j y, (x :: l)[j]? = some y → w4.cell? ⟨bq, oq + j, none⟩ = some (.string ⟨y.toArray⟩)) := Lib.hid (fun j y hy => by
              obtain ⟨b', o', e, _, hc⟩ := S4.out.2.2.2 kpos
              injection e with e
              injection e with e1 e2 _
              subst e1 e2
              exact hc j _ (by rw [strsV_get, hy]; rfl))
            go_loopw [11] (fun i wr => ∃ k : Nat, i = .int .i64 k ∧ 1 ≤ k ∧ k ≤ k0 ∧ (∀ j y, j < k → (x :: l)[j]? = some y → y = x) ∧ ∃ q, wr = w4.drewN q) (fun i _ => k0 - (intOf i).toNat)
            case atStart => exact ⟨1, rfl, by omega, by omega, fun j y hj hy => by (obtain rfl : j = 0 := by omega); simpa using hy.symm, 0, rfl⟩
            case round =>
              obtain ⟨k, rfl, hk1, hk, hall, q, hq⟩ := hrel
              have HA := Lib.hid hall
              have HQ := Lib.hid hq
              have B9 : Hid (Below w.heap.size w wr) := Lib.hid (by rw [hq]; exact below_drewN B4.out q)
              clear hall hq
              by_cases hlt : k < k0
              · have kI : (k : Int) < (k0 : Int) := by omega
                obtain ⟨y, hy⟩ : ∃ y, (x :: l)[k]? = some y := ⟨_, List.getElem?_eq_getElem (by have := HK0.out; omega)⟩
                have c1 : wr.cell? ⟨bq, oq + k, none⟩ = some (.string ⟨y.toArray⟩) := by rw [HQ.out]; exact CQ.out k y hy
                have c0 : wr.cell? ⟨bq, oq, none⟩ = some (.string Sx) := by rw [HQ.out]; exact hcq
                have j0 : (0 : Int) < (k0 : Int) := by omega
                obtain ⟨Sy, hSy⟩ : ∃ S : ByteArray, (⟨y.toArray⟩ : ByteArray) = S := ⟨_, rfl⟩
                rw [hSy] at c1
                have e0 : (Sy.toList == Sx.toList) = decide (y = x) := by
                  rw [ByteArray.toList_eq, ByteArray.toList_eq, HDX.out, ← hSy, Bool.eq_iff_iff, beq_iff_eq, decide_eq_true_eq]
                clear hSy
                by_cases hyx : y = x
                · rw [decide_eq_true hyx] at e0
                  have e1 : (Sy.toList != Sx.toList) = false := by rw [bne, e0]; rfl
                  have HA2 : Hid (∀ j z, j < k + 1 → (x :: l)[j]? = some z → z = x) := Lib.hid (fun j z hj hz => by
                    rcases Nat.lt_or_ge j k with h | h
                    · exact HA.out j z h hz
                    · obtain rfl : j = k := by omega
                      rw [hy] at hz
                      simp only [Option.some.injEq] at hz
                      rw [← hz]; exact hyx)
                  clear hy hyx HA
                  go_wp2
                  go_region
                  go_wp2
                  go_roundw
                  case rel => exact ⟨k + 1, by go_num, by omega, by omega, HA2.out, first_drew HQ.out⟩
                  case measure => simp only [intOf]; omega
                · rw [decide_eq_false hyx] at e0
                  have e1 : (Sy.toList != Sx.toList) = true := by rw [bne, e0]; rfl
                  have HV : Hid (R = (0, 0, 10)) := Lib.hid (by
                    rw [HR3.out, if_pos]
                    rw [← Bool.not_eq_true, List.all_eq_true]
                    intro h
                    obtain ⟨m, rfl⟩ : ∃ m, k = m + 1 := ⟨k - 1, by omega⟩
                    rw [List.getElem?_cons_succ] at hy
                    exact hyx (by simpa using h y (List.mem_of_getElem? hy)))
                  clear hy hyx HA
                  go_wp2
                  go_region
                  go_wp2
                  go_ret3
                  exact ⟨by rw [HV.out]; rfl, by first | exact B9.out | exact below_drewN B9.out 1⟩
              · obtain rfl : k0 = k := by omega
                have c0 : wr.cell? ⟨bq, oq, none⟩ = some (.string Sx) := by rw [HQ.out]; exact hcq
                have j0 : (0 : Int) < (k0 : Int) := by omega
                have hall : ¬ (l.all fun y => y == x) = false := by
                  rw [Bool.not_eq_false, List.all_eq_true]
                  intro y hy
                  obtain ⟨j, hj, rfl⟩ := List.mem_iff_getElem.1 hy
                  have := HA.out (j + 1) l[j] (by have := HK0.out; rw [List.length_cons] at this; omega) (by rw [List.getElem?_cons_succ, List.getElem?_eq_getElem hj])
                  simpa using this
                have HR4 := HR3.out
                rw [if_neg hall] at HR4
                clear hall HA
                by_cases hne : ne = 0
                · subst hne
                  have HV : Hid (R = (1, nv, 0)) := Lib.hid (by rw [HR4]; simp)
                  clear HR4
                  go_wp2_with (go_at_call 81; (with_reducible refine (NU.out _).mono ?_); rintro x6 w6 ⟨rfl, rfl⟩)
                  go_ret3
                  exact ⟨by rw [HV.out]; rfl, B9.out⟩
                · have nen : (ne != 0) = true := by rw [bne_iff_ne]; exact hne
                  have HV : Hid (R = (0, 0, ne)) := Lib.hid (by rw [HR4, if_pos hne])
                  clear HR4 hne
                  go_wp2_with (go_at_call 81; (with_reducible refine (NU.out _).mono ?_); rintro x6 w6 ⟨rfl, rfl⟩)
                  go_ret3
                  exact ⟨by rw [HV.out]; rfl, B9.out⟩
        · have yl : ¬ 0 < Y.length := by (have h : Y = [] := by simpa using hy0); rw [h]; simp
          rw [if_neg hy0] at HR2
          by_cases hz : st = 0
          · have s0 : (st == 0) = true := by rw [beq_iff_eq]; exact hz
            have HV : Hid (R = (0, 0, 0)) := Lib.hid (by rw [HR2]; rw [if_pos hz])
            clear hx0 hy0 HR2 hspT hspC hlenC hz
            go_wp2_with (first
              | (have _t := tok1; go_at_call 79; (with_reducible refine (GT.out _ B1.out).mono ?_); rintro x2 w2 ⟨v2, rfl, ho2, hb2⟩; obtain ⟨A2, c2, rfl, hs2⟩ := own_slice ho2; have B2 := Lib.hid (below_step B1.out hb2); have R2 := Lib.hid (R1.out.below hb2 R1.out.lt); have d5 := R2.out.cell (j := 5) H5.out; have S2 := Lib.hid hs2; clear tok1 hb2 ho2 hs2; have tok2 : True := trivial)
              | (have _t := tok2; go_at_call 79; (with_reducible refine (GC.out _ B2.out).mono ?_); rintro x3 w3 ⟨v3, rfl, ho3, hb3⟩; obtain ⟨A3, c3, rfl, hs3⟩ := own_slice ho3; have B3 := Lib.hid (below_step B2.out hb3); have R3 := Lib.hid (R2.out.below hb3 R2.out.lt); have d2 := R3.out.cell (j := 2) H2.out; have d4 := R3.out.cell (j := 4) H4.out; have S3 := Lib.hid hs3; replace S2 := Lib.hid ((S2.out.below hb3).more hb3.size); clear tok2 hb3 ho3 hs3; have tok3 : True := trivial))
            go_ret3
            exact ⟨by rw [HV.out]; rfl, B3.out⟩
          · have s0 : (st == 0) = false := by rw [beq_eq_false_iff_ne]; exact hz
            have HV : Hid (R = (0, 0, 10)) := Lib.hid (by rw [HR2]; rw [if_neg hz])
            clear hx0 hy0 HR2 hspT hspC hlenC hz
            go_wp2_with (first
              | (have _t := tok1; go_at_call 79; (with_reducible refine (GT.out _ B1.out).mono ?_); rintro x2 w2 ⟨v2, rfl, ho2, hb2⟩; obtain ⟨A2, c2, rfl, hs2⟩ := own_slice ho2; have B2 := Lib.hid (below_step B1.out hb2); have R2 := Lib.hid (R1.out.below hb2 R1.out.lt); have d5 := R2.out.cell (j := 5) H5.out; have S2 := Lib.hid hs2; clear tok1 hb2 ho2 hs2; have tok2 : True := trivial)
              | (have _t := tok2; go_at_call 79; (with_reducible refine (GC.out _ B2.out).mono ?_); rintro x3 w3 ⟨v3, rfl, ho3, hb3⟩; obtain ⟨A3, c3, rfl, hs3⟩ := own_slice ho3; have B3 := Lib.hid (below_step B2.out hb3); have R3 := Lib.hid (R2.out.below hb3 R2.out.lt); have d2 := R3.out.cell (j := 2) H2.out; have d4 := R3.out.cell (j := 4) H4.out; have S3 := Lib.hid hs3; replace S2 := Lib.hid ((S2.out.below hb3).more hb3.size); clear tok2 hb3 ho3 hs3; have tok3 : True := trivial))
            go_ret3
            exact ⟨by rw [HV.out]; rfl, B3.out⟩
end Go.Proofs.YtniiadhhefgmcaaGreatDoor
