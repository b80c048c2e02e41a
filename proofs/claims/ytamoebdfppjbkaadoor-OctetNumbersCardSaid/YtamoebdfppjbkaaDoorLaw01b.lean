/- The law OctetNumbers, walked: it returns true. No condition. -/
import Derived.Test.YtamoebdfppjbkaaDoorAw01
import Derived.Test.YtamoebdfppjbkaaDoorOct10
namespace Go.Proofs.YtamoebdfppjbkaaDoor
open Go.RowKit IH
set_option maxRecDepth 100000

theorem wf64 {n : Int} (h : (Lit.int .i64 n).wf = true) : -9223372036854775808 ≤ n ∧ n ≤ 9223372036854775807 := by
  have e : IntKind.i64.min = -9223372036854775808 := by decide
  simp [Lit.wf] at h
  rw [e] at h
  exact h
theorem printN_size (n b : Int) : (⟨(printN n b).toArray⟩ : ByteArray).size ≤ 64 := by
  rw [size_mk]; exact digs_length _ _ _
theorem back10 (n : Int) (h1 : n ≤ 9223372036854775807) (w : World) :
    Calls Tryd.prog 17 #[.string ⟨(printN n 10).toArray⟩, .int .i64 9223372036854775807] w fun e w' => e = .returned (.tuple #[.int .i64 (max n 0), .int .i64 0]) ∧ Below w.heap.size w w' := by
  have h := Number_any ⟨(printN n 10).toArray⟩ (by have := printN_size n 10; omega) 9223372036854775807 (by omega) (by omega) w
  have e : numR 10 9223372036854775807 (⟨(printN n 10).toArray⟩ : ByteArray).data.toList = (max n 0, 0) := by
    show numR 10 9223372036854775807 (digs 10 64 n.toNat) = _
    rw [numR_print 10 (.inl rfl) n.toNat (by omega)]
    congr 1
    omega
  rw [e] at h
  exact h
theorem back16 (n : Int) (h1 : n ≤ 9223372036854775807) (w : World) :
    Calls Tryd.prog 19 #[.string ⟨(printN n 16).toArray⟩, .int .i64 9223372036854775807] w fun e w' => e = .returned (.tuple #[.int .i64 (max n 0), .int .i64 0]) ∧ Below w.heap.size w w' := by
  have h := Hex_any ⟨(printN n 16).toArray⟩ (by have := printN_size n 16; omega) 9223372036854775807 (by omega) (by omega) w
  have e : numR 16 9223372036854775807 (⟨(printN n 16).toArray⟩ : ByteArray).data.toList = (max n 0, 0) := by
    show numR 16 9223372036854775807 (digs 16 64 n.toNat) = _
    rw [numR_print 16 (.inr rfl) n.toNat (by omega)]
    congr 1
    omega
  rw [e] at h
  exact h

set_option maxHeartbeats 4000000 in
theorem numbers_walk (w : World) (s : ByteArray) (_ws : s.size ≤ maxLen) (n : Int) (wn : (Lit.int .i64 n).wf = true) (most : Int) (wm : (Lit.int .i64 most).wf = true) :
    Calls Tryd.prog 4 #[.string s, .int .i64 n, .int .i64 most] w fun e w' => e = .returned (.bool true) ∧ Below w.heap.size w w' := by
  have hn : -9223372036854775808 ≤ n ∧ n ≤ 9223372036854775807 := wf64 wn
  have hm : -9223372036854775808 ≤ most ∧ most ≤ 9223372036854775807 := wf64 wm
  by_cases h500 : 500 < s.size
  · go_enter Tryd.func4, Tryd.ntmps4
    go_wp2_with fail
    refine (awake01_any _).mono ?_
    rintro e w1 ⟨rfl, hb1⟩
    go_wp2_with fail
    refine (awake01_any _).mono ?_
    rintro e w2 ⟨rfl, hb2⟩
    go_wp2
    go_ret
    exact ⟨rfl, hb1.trans (hb2.mono hb1.size)⟩
  · have hs : s.size ≤ 1000000000 := by omega
    have C1 := Lib.hid (Number_any s hs most hm.1 hm.2)
    have C2 := Lib.hid (refNumber10_any s hs most hm.1 hm.2)
    have C3 := Lib.hid (Hex_any s hs most hm.1 hm.2)
    have C4 := Lib.hid (refNumber16_any s hs most hm.1 hm.2)
    obtain ⟨x1, y1⟩ := numR 10 most s.data.toList
    obtain ⟨x2, y2⟩ := numR 16 most s.data.toList
    have P1 := Lib.hid (Print_any n 10 hn.1 hn.2)
    have P2 := Lib.hid (Print_any n 16 hn.1 hn.2)
    have P3 := Lib.hid (Print_any n most hn.1 hn.2)
    have R1 := Lib.hid (refPrint_any n 10 hn.2)
    have R2 := Lib.hid (refPrint_any n 16 hn.2)
    have R3 := Lib.hid (refPrint_any n most hn.2)
    have B1 := Lib.hid (back10 n hn.2)
    have B2 := Lib.hid (back16 n hn.2)
    clear hn hm wn wm hs
    generalize (printN n 10).toArray = a10 at *
    generalize (printN n 16).toArray = a16 at *
    generalize (printN n most).toArray = am at *
    go_enter Tryd.func4, Tryd.ntmps4
    go_wp2_with fail
    refine (awake01_any _).mono ?_
    rintro e w1 ⟨rfl, hb1⟩
    go_wp2_with (first
      | (go_at_call 17; (with_reducible refine (C1.out _).mono ?_); rintro e w2 ⟨rfl, hb2⟩)
      | (go_at_call 18; (with_reducible refine (C2.out _).mono ?_); rintro e w3 ⟨rfl, rfl⟩)
      | (go_at_call 19; (with_reducible refine (C3.out _).mono ?_); rintro e w4 ⟨rfl, hb4⟩)
      | (go_at_call 18; (with_reducible refine (C4.out _).mono ?_); rintro e w5 ⟨rfl, rfl⟩)
      | (go_at_call 20; (with_reducible refine (P1.out _).mono ?_); rintro e w6 ⟨rfl, nq1, rfl⟩)
      | (go_at_call 20; (with_reducible refine (P2.out _).mono ?_); rintro e w7 ⟨rfl, nq2, rfl⟩)
      | (go_at_call 21; (with_reducible refine (R1.out _).mono ?_); rintro e w8 ⟨rfl, hb8⟩)
      | (go_at_call 21; (with_reducible refine (R2.out _).mono ?_); rintro e w9 ⟨rfl, hb9⟩)
      | (go_at_call 20; (with_reducible refine (P3.out _).mono ?_); rintro e w10 ⟨rfl, nq3, rfl⟩)
      | (go_at_call 21; (with_reducible refine (R3.out _).mono ?_); rintro e w11 ⟨rfl, hb11⟩)
      | (go_at_call 17; (with_reducible refine (B1.out _).mono ?_); rintro e w12 ⟨rfl, hb12⟩)
      | (go_at_call 19; (with_reducible refine (B2.out _).mono ?_); rintro e w13 ⟨rfl, hb13⟩))
    go_ret
    have h2 := hb1.trans (hb2.mono hb1.size)
    have h4 := h2.trans (hb4.mono h2.size)
    have h8 := (below_drewN h4 (nq1 + nq2)).trans (hb8.mono h4.size)
    have h9 := h8.trans (hb9.mono h8.size)
    have h11 := (below_drewN h9 nq3).trans (hb11.mono h9.size)
    have h12 := h11.trans (hb12.mono h11.size)
    have h13 := h12.trans (hb13.mono h12.size)
    exact ⟨rfl, h13⟩
end Go.Proofs.YtamoebdfppjbkaaDoor
