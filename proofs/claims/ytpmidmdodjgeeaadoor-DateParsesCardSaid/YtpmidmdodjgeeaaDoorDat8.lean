/- Walks of layer 2: a date out of texts. Condition: texts are within bounds; the receiver is a date known whole. -/
import Derived.Test.YtpmidmdodjgeeaaDoorDat7
namespace Go.Proofs.YtpmidmdodjgeeaaDoor
open Go.RowKit IH
set_option maxRecDepth 100000

def monthsL : List UInt8 := [74, 97, 110, 70, 101, 98, 77, 97, 114, 65, 112, 114, 77, 97, 121, 74, 117, 110, 74, 117, 108, 65, 117, 103, 83, 101, 112, 79, 99, 116, 78, 111, 118, 68, 101, 99]
theorem months_at : ((List.range 12).all fun k => (monthsL.drop (3 * k)).take 3 == monN ((k : Int) + 1)) = true := by decide +kernel
theorem months_ix : ((List.range 12).all fun k => Lib.index monthsL (monN ((k : Int) + 1)) == ((3 * k : Nat) : Int)) = true := by decide +kernel
theorem monOf_pos (m : List UInt8) (h : 1 ≤ monOf m) : m.length = 3 ∧ Lib.index monthsL m = 3 * (monOf m - 1) ∧ monOf m ≤ 12 := by
  have hb := monOf_bd m
  have hm := monOf_inv m h
  obtain ⟨k, hk⟩ : ∃ k : Nat, monOf m = (k : Int) + 1 := ⟨(monOf m - 1).toNat, by omega⟩
  have h1 := List.all_eq_true.1 months_ix k (List.mem_range.2 (by omega))
  rw [← hk, ← hm] at h1
  have h2 := eq_of_beq h1
  obtain ⟨a, b, c, e⟩ := monN_three (monOf m) h hb.2
  refine ⟨by rw [hm, e]; rfl, by rw [h2, hk]; omega, hb.2⟩
theorem monOf_zero (m : List UInt8) (h3 : m.length = 3) (h0 : 0 ≤ Lib.index monthsL m) (hz : Lib.index monthsL m % 3 = 0) : monOf m = Lib.index monthsL m / 3 + 1 := by
  have hroom := Lib.index_room monthsL m h0
  rw [h3] at hroom
  have hl : (monthsL.length : Int) = 36 := rfl
  obtain ⟨k, hk⟩ : ∃ k : Nat, Lib.index monthsL m = ((3 * k : Nat) : Int) := ⟨(Lib.index monthsL m / 3).toNat, by omega⟩
  have hk12 : k < 12 := by omega
  rcases Lib.index_spec monthsL m with ⟨h, _⟩ | ⟨i, h1, h2, h4, _⟩
  · omega
  · have hi : i = 3 * k := by omega
    subst hi
    have h5 : m <+: monthsL.drop (3 * k) := List.isPrefixOf_iff_prefix.1 h4
    have h6 : m = (monthsL.drop (3 * k)).take 3 := by have h9 := List.prefix_iff_eq_take.1 h5; rw [h3] at h9; exact h9
    have h7 := eq_of_beq (List.all_eq_true.1 months_at k (List.mem_range.2 hk12))
    rw [h7] at h6
    have h8 := monOf_monN ((k : Int) + 1) (by omega) (by omega)
    rw [← h6] at h8
    rw [h8, h1]
    omega

set_option maxHeartbeats 4000000 in
theorem dated_no (D M Y : ByteArray) (g : Nat) (w : World) (hsh : w.ShapedOpen Tryd.prog) (hm : monOf M.data.toList < 1) :
    Calls Tryd.prog 80 #[.pointer (some ⟨g, 0, none⟩), .string D, .string M, .string Y] w fun e w' => e = .returned (.bool false) ∧ w = w' := by
  have IX := Tryd.strings_Index_shaped ⟨monthsL.toArray⟩ M w hsh (by decide)
  have e1 : (⟨monthsL.toArray⟩ : ByteArray).data.toList = monthsL := rfl
  rw [e1] at IX
  have hz := monOf_zero M.data.toList
  rw [data_len] at hz
  have hlo := Lib.index_ge monthsL M.data.toList
  have hhi := Lib.index_le monthsL M.data.toList
  have hl : (monthsL.length : Int) = 36 := rfl
  generalize Lib.index monthsL M.data.toList = i at *
  generalize monOf M.data.toList = mo at *
  unfold monthsL at IX
  have IX' := Lib.hid IX
  clear IX e1 hsh
  by_cases h3 : M.size = 3
  · have h3b : ((M.size : Int) != 3) = false := by rw [h3]; rfl
    by_cases h0 : i < 0
    · clear hz h3
      go_enter Tryd.func80, Tryd.ntmps80
      go_wp2_with (go_at_call 110; refine IX'.out.mono ?_; rintro e w2 ⟨rfl, rfl⟩)
      go_ret
      exact ⟨rfl, rfl⟩
    · have hr : 0 < i % 3 := by
        rcases Int.lt_or_le 0 (i % 3) with h | h
        · exact h
        · have := hz h3 (by omega) (by omega); omega
      have hi0 : 0 ≤ i := by omega
      clear hz h3 h0
      go_enter Tryd.func80, Tryd.ntmps80
      go_wp2_with (go_at_call 110; refine IX'.out.mono ?_; rintro e w2 ⟨rfl, rfl⟩)
      go_ret
      exact ⟨rfl, rfl⟩
  · have h3b : ((M.size : Int) != 3) = true := by rw [bne_iff_ne]; omega
    clear hz h3
    go_enter Tryd.func80, Tryd.ntmps80
    go_wp2_with (go_at_call 110; refine IX'.out.mono ?_; rintro e w2 ⟨rfl, rfl⟩)
    go_ret
    exact ⟨rfl, rfl⟩

def okDate (y m d : Int) : Bool := decide (1970 ≤ y) && (decide (1 ≤ d) && decide (d ≤ mlen y m))
set_option maxHeartbeats 8000000 in
theorem dated_yes (D M Y : ByteArray) (g : Nat) (y m d h mi se k : Int) (w : World) (hsh : w.ShapedOpen Tryd.prog) (hD : D.size ≤ 1000000000) (hY : Y.size ≤ 1000000000) (hr : RowAt w g 83 (civV y m d h mi se k)) (hm : 1 ≤ monOf M.data.toList) :
    Calls Tryd.prog 80 #[.pointer (some ⟨g, 0, none⟩), .string D, .string M, .string Y] w fun e w' => e = .returned (.bool (okDate (century Y.data.toList) (monOf M.data.toList) (digitsD D.data.toList))) ∧ RowAt w' g 83 (civV (century Y.data.toList) (monOf M.data.toList) (digitsD D.data.toList) h mi se k) ∧ Save w.heap.size g w w' := by
  have IX := (Tryd.strings_Index_shaped ⟨monthsL.toArray⟩ M w hsh (by decide)).mono (fun (e : Ending) w' (hh : _ ∧ w' = w) => (⟨hh.1, hh.2.symm⟩ : _ ∧ w = w'))
  have e1 : (⟨monthsL.toArray⟩ : ByteArray).data.toList = monthsL := rfl
  rw [e1] at IX
  obtain ⟨h3, hix, hm12⟩ := monOf_pos M.data.toList hm
  rw [hix] at IX
  rw [data_len] at h3
  have DD := digits_any D (by omega)
  have DY := digits_any Y (by omega)
  have bd := digitsD_bd D.data.toList
  have by_ := digitsD_bd Y.data.toList
  have hcen : century Y.data.toList = if Y.size = 2 ∧ 0 ≤ digitsD Y.data.toList then (if digitsD Y.data.toList < 70 then digitsD Y.data.toList + 2000 else digitsD Y.data.toList + 1900) else digitsD Y.data.toList := by
    unfold century; rw [data_len]
  generalize century Y.data.toList = cy at *
  generalize digitsD D.data.toList = nd at *
  generalize digitsD Y.data.toList = ny at *
  generalize monOf M.data.toList = mo at *
  unfold monthsL at IX
  have IX' := Lib.hid IX
  replace DD := Lib.hid DD
  replace DY := Lib.hid DY
  have hcase : (((Y.size : Int) == 2) = false ∧ ny = cy) ∨ (((Y.size : Int) == 2) = true ∧ ny < 0 ∧ ny = cy) ∨ (((Y.size : Int) == 2) = true ∧ 0 ≤ ny ∧ ny < 70 ∧ ny + 1900 + 100 = cy) ∨ (((Y.size : Int) == 2) = true ∧ 0 ≤ ny ∧ 70 ≤ ny ∧ ny + 1900 = cy) := by
    by_cases h2 : Y.size = 2
    · have e : ((Y.size : Int) == 2) = true := by rw [h2]; rfl
      by_cases hn : 0 ≤ ny
      · rw [if_pos ⟨h2, hn⟩] at hcen
        by_cases h7 : ny < 70
        · rw [if_pos h7] at hcen; exact .inr (.inr (.inl ⟨e, hn, h7, by omega⟩))
        · rw [if_neg h7] at hcen; exact .inr (.inr (.inr ⟨e, hn, by omega, by omega⟩))
      · rw [if_neg fun h => hn h.2] at hcen; exact .inr (.inl ⟨e, by omega, by omega⟩)
    · have e : ((Y.size : Int) == 2) = false := by rw [beq_eq_false_iff_ne]; omega
      rw [if_neg fun h => h2 h.1] at hcen; exact .inl ⟨e, by omega⟩
  have HR := Lib.hid hr
  have hglt := hr.lt
  have h3b : ((M.size : Int) != 3) = false := by rw [h3]; rfl
  have i0 : 0 ≤ 3 * (mo - 1) := by omega
  have i1 : 3 * (mo - 1) ≤ 36 := by omega
  have i2 : 3 * (mo - 1) % 3 = 0 := by omega
  have i3 : 3 * (mo - 1) / 3 + 1 = mo := by omega
  have hmo : 3 * (mo - 1) / 3 = mo - 1 := by omega
  have hcb : -1 ≤ cy ∧ cy ≤ 99999 := by rcases hcase with h | h | h | h <;> omega
  obtain ⟨cb0, cb1⟩ := hcb
  have L : 1970 ≤ cy → ∀ w, Calls Tryd.prog 84 #[.int .i64 cy, .int .i64 mo] w fun e w' => e = .returned (.int .i64 (mlen cy mo)) ∧ w = w' := fun hq w => length_any cy mo (by omega) (by omega) w
  have hml := mlen_bd cy mo
  have hok : okDate cy mo nd = (decide (1970 ≤ cy) && (decide (1 ≤ nd) && decide (nd ≤ mlen cy mo))) := rfl
  rw [hok]
  generalize mlen cy mo = ML at *
  replace L := Lib.hid L
  clear IX e1 hsh hcen hr h3 hix hok
  rcases hcase with ⟨hq, hcy⟩ | ⟨hq, hn0, hcy⟩ | ⟨hq, hn0, hn7, hcy⟩ | ⟨hq, hn0, hn7, hcy⟩
  all_goals
    have Hcy := Lib.hid hcy; clear hcy
    by_cases hy : 1970 ≤ cy
    · have hyb : decide (1970 ≤ cy) = true := decide_eq_true hy
      have L' := Lib.hid (L.out hy)
      by_cases hd : 1 ≤ nd
      · have hdb : decide (1 ≤ nd) = true := decide_eq_true hd
        go_enter Tryd.func80, Tryd.ntmps80
        go_upto_region 4 with (go_at_call 110; refine IX'.out.mono ?_; rintro e w2 ⟨rfl, rfl⟩)
        go_upto_region 5 with (first
          | (go_at_call_of 111 (Value.string D); (with_reducible refine (DD.out _).mono ?_); rintro e w3 ⟨rfl, hb3⟩; have R3 := Lib.hid (HR.out.below hb3 hglt); have S3 := Lib.hid (below_save (g := g) hb3); have z3 := hb3.size; clear hb3)
          | (go_at_call_of 111 (Value.string Y); (with_reducible refine (DY.out _).mono ?_); rintro e w4 ⟨rfl, hb4⟩; have hr4 := R3.out.below hb4 R3.out.lt; have S4 := Lib.hid (S3.out.step hb4 z3); have z4 := hb4.size; obtain ⟨c0, c1, c2, c3, c4, c5, c6⟩ := civ_cells hr4; have f0 := row_frozen hr4 0 (by show 0 < 7; decide); have f1 := row_frozen hr4 1 (by show 1 < 7; decide); have f2 := row_frozen hr4 2 (by show 2 < 7; decide); have R4 := Lib.hid hr4; clear hb4 hr4))
        have hr5 : RowAt _ g 83 (civV ny mo nd h mi se k) := ((R4.out.set_ (j := 2) (by show 2 < 7; decide) (.int .i64 nd)).set_ (j := 1) (by show 1 < 7; decide) (.int .i64 mo)).set_ (j := 0) (by show 0 < 7; decide) (.int .i64 ny)
        have hs5 := ((S4.out.setCell 2 (.int .i64 nd)).setCell 1 (.int .i64 mo)).setCell 0 (.int .i64 ny)
        clear c0 c1 c2 c3 c4 c5 c6 f0 f1 f2 R4 S4 R3 S3 i0 i1 i2 i3 hmo
        generalize (((w4.setCell ⟨g, 2, none⟩ (.int .i64 nd)).setCell ⟨g, 1, none⟩ (.int .i64 mo)).setCell ⟨g, 0, none⟩ (.int .i64 ny)) = w5 at *
        obtain ⟨c0, c1, c2, c3, c4, c5, c6⟩ := civ_cells hr5
        have f0 := row_frozen hr5 0 (by show 0 < 7; decide)
        have R5 := Lib.hid hr5
        have S5 := Lib.hid hs5
        clear hr5 hs5
        go_upto_region 9 with fail
        refine wp_region_plan (fun w' => RowAt w' g 83 (civV cy mo nd h mi se k) ∧ Save w.heap.size g w w') [(0, true), (1, true), (2, true), (3, true), (4, true), (5, true), (6, true), (7, true), (8, true), (9, true), (10, true), (11, true), (12, true), (13, true), (14, true), (15, true), (16, true), (17, true), (18, true), (19, true), (20, true), (21, true), (22, true), (23, true), (24, true), (25, false), (26, true), (27, true), (28, true)] (by kernel_rfl) (by kernel_rfl) rfl (by kernel_rfl) (by first | (refine ⟨?_, S5.out.drewN 1⟩; rw [← Hcy.out]; exact R5.out.drewN 1) | (refine ⟨?_, (S5.out.setCell 0 _).drewN 1⟩; rw [← Hcy.out]; exact (R5.out.set_ (j := 0) (by show 0 < 7; decide) (.int .i64 (ny + 1900))).drewN 1) | (refine ⟨?_, ((S5.out.setCell 0 _).setCell 0 _).drewN 1⟩; rw [← Hcy.out]; exact ((R5.out.set_ (j := 0) (by show 0 < 7; decide) (.int .i64 (ny + 1900))).set_ (j := 0) (by show 0 < 7; decide) (.int .i64 (ny + 1900 + 100))).drewN 1)) ?_
        clear c0 c1 c2 c3 c4 c5 c6 f0
        intro w1 hH
        iterate 25
          refine plan_take (v := ?_) rfl (by rfl) ?_ ?_
          rotate_left
          · intro w2 hSw
            have hc := civ_cells hSw.1
            clear hSw
            go_simp
            try with_reducible rfl
          try simp only [Act.put, List.setIfInBounds_toArray, List.set_cons_zero, List.set_cons_succ]
        refine plan_move rfl (by rfl) (fun K hK => ?_)
        go_simp
        (with_reducible refine (L'.out _).mono ?_)
        rintro e w3 ⟨rfl, rfl⟩
        refine hK.out _ _ (hH.out) ?_
        clear hH hK K
        intro hH
        try simp only [Act.put, List.setIfInBounds_toArray, List.set_cons_zero, List.set_cons_succ]
        iterate 3
          refine plan_take (v := ?_) rfl (by rfl) ?_ ?_
          rotate_left
          · intro w2 hSw
            have hc := civ_cells hSw.1
            clear hSw
            go_simp
            try with_reducible rfl
          try simp only [Act.put, List.setIfInBounds_toArray, List.set_cons_zero, List.set_cons_succ]
        refine plan_done ?_
        have h1 := hH.out.1
        have h2 := hH.out.2
        clear hH
        go_wp2
        go_ret
        exact ⟨ret_bool (by (try rw [hyb]); (try rw [hdb]); rfl), h1, h2⟩
      · have hdb : decide (1 ≤ nd) = false := decide_eq_false hd
        go_enter Tryd.func80, Tryd.ntmps80
        go_upto_region 4 with (go_at_call 110; refine IX'.out.mono ?_; rintro e w2 ⟨rfl, rfl⟩)
        go_upto_region 5 with (first
          | (go_at_call_of 111 (Value.string D); (with_reducible refine (DD.out _).mono ?_); rintro e w3 ⟨rfl, hb3⟩; have R3 := Lib.hid (HR.out.below hb3 hglt); have S3 := Lib.hid (below_save (g := g) hb3); have z3 := hb3.size; clear hb3)
          | (go_at_call_of 111 (Value.string Y); (with_reducible refine (DY.out _).mono ?_); rintro e w4 ⟨rfl, hb4⟩; have hr4 := R3.out.below hb4 R3.out.lt; have S4 := Lib.hid (S3.out.step hb4 z3); have z4 := hb4.size; obtain ⟨c0, c1, c2, c3, c4, c5, c6⟩ := civ_cells hr4; have f0 := row_frozen hr4 0 (by show 0 < 7; decide); have f1 := row_frozen hr4 1 (by show 1 < 7; decide); have f2 := row_frozen hr4 2 (by show 2 < 7; decide); have R4 := Lib.hid hr4; clear hb4 hr4))
        have hr5 : RowAt _ g 83 (civV ny mo nd h mi se k) := ((R4.out.set_ (j := 2) (by show 2 < 7; decide) (.int .i64 nd)).set_ (j := 1) (by show 1 < 7; decide) (.int .i64 mo)).set_ (j := 0) (by show 0 < 7; decide) (.int .i64 ny)
        have hs5 := ((S4.out.setCell 2 (.int .i64 nd)).setCell 1 (.int .i64 mo)).setCell 0 (.int .i64 ny)
        clear c0 c1 c2 c3 c4 c5 c6 f0 f1 f2 R4 S4 R3 S3 i0 i1 i2 i3 hmo
        generalize (((w4.setCell ⟨g, 2, none⟩ (.int .i64 nd)).setCell ⟨g, 1, none⟩ (.int .i64 mo)).setCell ⟨g, 0, none⟩ (.int .i64 ny)) = w5 at *
        obtain ⟨c0, c1, c2, c3, c4, c5, c6⟩ := civ_cells hr5
        have f0 := row_frozen hr5 0 (by show 0 < 7; decide)
        have R5 := Lib.hid hr5
        have S5 := Lib.hid hs5
        clear hr5 hs5
        go_upto_region 9 with fail
        refine wp_region_plan (fun w' => RowAt w' g 83 (civV cy mo nd h mi se k) ∧ Save w.heap.size g w w') [(0, true), (1, true), (2, true), (3, true), (4, true), (5, true), (6, true), (7, true), (8, true), (9, true), (10, true), (11, true), (12, true), (13, true), (14, true), (15, true), (16, true), (17, true), (18, true), (19, true), (20, true), (21, true), (22, true), (23, true), (24, true), (25, false), (26, true), (27, true), (28, true)] (by kernel_rfl) (by kernel_rfl) rfl (by kernel_rfl) (by first | (refine ⟨?_, S5.out.drewN 1⟩; rw [← Hcy.out]; exact R5.out.drewN 1) | (refine ⟨?_, (S5.out.setCell 0 _).drewN 1⟩; rw [← Hcy.out]; exact (R5.out.set_ (j := 0) (by show 0 < 7; decide) (.int .i64 (ny + 1900))).drewN 1) | (refine ⟨?_, ((S5.out.setCell 0 _).setCell 0 _).drewN 1⟩; rw [← Hcy.out]; exact ((R5.out.set_ (j := 0) (by show 0 < 7; decide) (.int .i64 (ny + 1900))).set_ (j := 0) (by show 0 < 7; decide) (.int .i64 (ny + 1900 + 100))).drewN 1)) ?_
        clear c0 c1 c2 c3 c4 c5 c6 f0
        intro w1 hH
        iterate 13
          refine plan_take (v := ?_) rfl (by rfl) ?_ ?_
          rotate_left
          · intro w2 hSw
            have hc := civ_cells hSw.1
            clear hSw
            go_simp
            try with_reducible rfl
          try simp only [Act.put, List.setIfInBounds_toArray, List.set_cons_zero, List.set_cons_succ]
        iterate 12
          refine plan_skip rfl (by rfl) ?_
          try simp only [Act.put, List.setIfInBounds_toArray, List.set_cons_zero, List.set_cons_succ]
        refine plan_skipM rfl (by rfl) hH.out ?_
        try simp only [Act.put, List.setIfInBounds_toArray, List.set_cons_zero, List.set_cons_succ]
        iterate 1
          refine plan_skip rfl (by rfl) ?_
          try simp only [Act.put, List.setIfInBounds_toArray, List.set_cons_zero, List.set_cons_succ]
        iterate 2
          refine plan_take (v := ?_) rfl (by rfl) ?_ ?_
          rotate_left
          · intro w2 hSw
            have hc := civ_cells hSw.1
            clear hSw
            go_simp
            try with_reducible rfl
          try simp only [Act.put, List.setIfInBounds_toArray, List.set_cons_zero, List.set_cons_succ]
        refine plan_done ?_
        have h1 := hH.out.1
        have h2 := hH.out.2
        clear hH
        go_wp2
        go_ret
        exact ⟨ret_bool (by (try rw [hyb]); (try rw [hdb]); rfl), h1, h2⟩
    · have hyb : decide (1970 ≤ cy) = false := decide_eq_false hy
      go_enter Tryd.func80, Tryd.ntmps80
      go_upto_region 4 with (go_at_call 110; refine IX'.out.mono ?_; rintro e w2 ⟨rfl, rfl⟩)
      go_upto_region 5 with (first
        | (go_at_call_of 111 (Value.string D); (with_reducible refine (DD.out _).mono ?_); rintro e w3 ⟨rfl, hb3⟩; have R3 := Lib.hid (HR.out.below hb3 hglt); have S3 := Lib.hid (below_save (g := g) hb3); have z3 := hb3.size; clear hb3)
        | (go_at_call_of 111 (Value.string Y); (with_reducible refine (DY.out _).mono ?_); rintro e w4 ⟨rfl, hb4⟩; have hr4 := R3.out.below hb4 R3.out.lt; have S4 := Lib.hid (S3.out.step hb4 z3); have z4 := hb4.size; obtain ⟨c0, c1, c2, c3, c4, c5, c6⟩ := civ_cells hr4; have f0 := row_frozen hr4 0 (by show 0 < 7; decide); have f1 := row_frozen hr4 1 (by show 1 < 7; decide); have f2 := row_frozen hr4 2 (by show 2 < 7; decide); have R4 := Lib.hid hr4; clear hb4 hr4))
      have hr5 : RowAt _ g 83 (civV ny mo nd h mi se k) := ((R4.out.set_ (j := 2) (by show 2 < 7; decide) (.int .i64 nd)).set_ (j := 1) (by show 1 < 7; decide) (.int .i64 mo)).set_ (j := 0) (by show 0 < 7; decide) (.int .i64 ny)
      have hs5 := ((S4.out.setCell 2 (.int .i64 nd)).setCell 1 (.int .i64 mo)).setCell 0 (.int .i64 ny)
      clear c0 c1 c2 c3 c4 c5 c6 f0 f1 f2 R4 S4 R3 S3 i0 i1 i2 i3 hmo
      generalize (((w4.setCell ⟨g, 2, none⟩ (.int .i64 nd)).setCell ⟨g, 1, none⟩ (.int .i64 mo)).setCell ⟨g, 0, none⟩ (.int .i64 ny)) = w5 at *
      obtain ⟨c0, c1, c2, c3, c4, c5, c6⟩ := civ_cells hr5
      have f0 := row_frozen hr5 0 (by show 0 < 7; decide)
      have R5 := Lib.hid hr5
      have S5 := Lib.hid hs5
      clear hr5 hs5
      go_upto_region 9 with fail
      refine wp_region_plan (fun w' => RowAt w' g 83 (civV cy mo nd h mi se k) ∧ Save w.heap.size g w w') [(0, true), (1, true), (2, true), (3, true), (4, true), (5, true), (6, true), (7, true), (8, true), (9, true), (10, true), (11, true), (12, true), (13, true), (14, true), (15, true), (16, true), (17, true), (18, true), (19, true), (20, true), (21, true), (22, true), (23, true), (24, true), (25, false), (26, true), (27, true), (28, true)] (by kernel_rfl) (by kernel_rfl) rfl (by kernel_rfl) (by first | (refine ⟨?_, S5.out.drewN 1⟩; rw [← Hcy.out]; exact R5.out.drewN 1) | (refine ⟨?_, (S5.out.setCell 0 _).drewN 1⟩; rw [← Hcy.out]; exact (R5.out.set_ (j := 0) (by show 0 < 7; decide) (.int .i64 (ny + 1900))).drewN 1) | (refine ⟨?_, ((S5.out.setCell 0 _).setCell 0 _).drewN 1⟩; rw [← Hcy.out]; exact ((R5.out.set_ (j := 0) (by show 0 < 7; decide) (.int .i64 (ny + 1900))).set_ (j := 0) (by show 0 < 7; decide) (.int .i64 (ny + 1900 + 100))).drewN 1)) ?_
      clear c0 c1 c2 c3 c4 c5 c6 f0
      intro w1 hH
      iterate 6
        refine plan_take (v := ?_) rfl (by rfl) ?_ ?_
        rotate_left
        · intro w2 hSw
          have hc := civ_cells hSw.1
          clear hSw
          go_simp
          try with_reducible rfl
        try simp only [Act.put, List.setIfInBounds_toArray, List.set_cons_zero, List.set_cons_succ]
      iterate 5
        refine plan_skip rfl (by rfl) ?_
        try simp only [Act.put, List.setIfInBounds_toArray, List.set_cons_zero, List.set_cons_succ]
      iterate 2
        refine plan_take (v := ?_) rfl (by rfl) ?_ ?_
        rotate_left
        · intro w2 hSw
          have hc := civ_cells hSw.1
          clear hSw
          go_simp
          try with_reducible rfl
        try simp only [Act.put, List.setIfInBounds_toArray, List.set_cons_zero, List.set_cons_succ]
      iterate 12
        refine plan_skip rfl (by rfl) ?_
        try simp only [Act.put, List.setIfInBounds_toArray, List.set_cons_zero, List.set_cons_succ]
      refine plan_skipM rfl (by rfl) hH.out ?_
      try simp only [Act.put, List.setIfInBounds_toArray, List.set_cons_zero, List.set_cons_succ]
      iterate 1
        refine plan_skip rfl (by rfl) ?_
        try simp only [Act.put, List.setIfInBounds_toArray, List.set_cons_zero, List.set_cons_succ]
      iterate 2
        refine plan_take (v := ?_) rfl (by rfl) ?_ ?_
        rotate_left
        · intro w2 hSw
          have hc := civ_cells hSw.1
          clear hSw
          go_simp
          try with_reducible rfl
        try simp only [Act.put, List.setIfInBounds_toArray, List.set_cons_zero, List.set_cons_succ]
      refine plan_done ?_
      have h1 := hH.out.1
      have h2 := hH.out.2
      clear hH
      go_wp2
      go_ret
      exact ⟨ret_bool (by (try rw [hyb]); (try rw [hdb]); rfl), h1, h2⟩
end Go.Proofs.YtpmidmdodjgeeaaDoor
