/- Layer 3's laws: FieldPrints, walked. Condition: the world's shape. -/
import Derived.Test.YtpmidmdodjgeeaaDoorLaw03c
import Derived.Test.YtpmidmdodjgeeaaDoorFie14
namespace Go.Proofs.YtpmidmdodjgeeaaDoor
open Go.RowKit IH
set_option maxRecDepth 100000
set_option maxHeartbeats 4000000 in
theorem prints_walk (w : World) (hsh : w.ShapedOpen Tryd.prog) (A1 : Option Addr) (n1 c1 : Nat) (L : List Fld) (h1 : SliceIn w w.heap.size 2 A1 n1 c1 (fldsV L)) (A2 : Option Addr) (n2 c2 : Nat) (T : List UInt8) (h2 : SliceIn w w.heap.size 1 A2 n2 c2 (bytesV T)) :
    Calls Tryd.prog 7 #[.slice A1 n1 c1, .slice A2 n2 c2] w fun e w' => e = .returned (.bool true) ∧ Below w.heap.size w w' := by
  have AW := Lib.hid (fun w hsh => awake03_any w hsh)
  have Hsh := Lib.hid hsh
  have H1 := Lib.hid h1
  have H2 := Lib.hid h2
  have hl1 := fld_count h1
  clear hsh h1 h2
  have SA := fun w1 (hb : Below w.heap.size w w1) => short_any A1 n1 c1 L 150 w.heap.size w1 (H1.out.below hb) (by omega)
  cases q1 : shortL 150 L
  · rw [q1] at SA
    replace SA := Lib.hid SA
    clear q1 hl1
    go_enter Tryd.func7, Tryd.ntmps7
    go_wp2_with fail
    refine (AW.out _ Hsh.out).mono ?_
    rintro e w2 ⟨rfl, hb2⟩
    have B2 := Lib.hid hb2; clear hb2
    go_wp2_with (go_at_call 17; refine (SA.out _ B2.out).mono ?_; rintro e w3 ⟨rfl, rfl⟩)
    refine (AW.out _ (shaped_below Hsh.out B2.out)).mono ?_
    rintro e w4 ⟨rfl, hb4⟩
    go_wp2
    go_ret
    exact ⟨rfl, below_step B2.out hb4⟩
  · rw [q1] at SA
    replace SA := Lib.hid SA
    by_cases h3 : 500 < n2
    · have h3I : (500 : Int) < (n2 : Int) := by omega
      clear q1 hl1 h3
      go_enter Tryd.func7, Tryd.ntmps7
      go_wp2_with fail
      refine (AW.out _ Hsh.out).mono ?_
      rintro e w2 ⟨rfl, hb2⟩
      have B2 := Lib.hid hb2; clear hb2
      go_wp2_with (go_at_call 17; refine (SA.out _ B2.out).mono ?_; rintro e w3 ⟨rfl, rfl⟩)
      refine (AW.out _ (shaped_below Hsh.out B2.out)).mono ?_
      rintro e w4 ⟨rfl, hb4⟩
      go_wp2
      go_ret
      exact ⟨rfl, below_step B2.out hb4⟩
    · have h3I : (n2 : Int) ≤ (500 : Int) := by omega
      have h3N : n2 ≤ 500 := by omega
      obtain ⟨p1, p2⟩ := shortL_small q1
      have hn1 : n1 ≤ 150 := by omega
      have M1 := smallF_mono p2 (show 2000 ≤ 1000000000 by omega)
      have PR := fun w1 (hb : Below w.heap.size w w1) => fprint_any A1 n1 c1 L w1 ((H1.out.below hb).more hb.size) (by omega) M1
      have FT := fun w1 (hb : Below w.heap.size w w1) => refFault_any A1 n1 c1 L w1 ((H1.out.below hb).more hb.size) (by omega) M1
      have RI := fun w1 (hb : Below w.heap.size w w1) => fRight_any A1 n1 c1 L w1 ((H1.out.below hb).more hb.size) (by omega) M1
      by_cases h0 : faultL L = 0
      · obtain ⟨z1, z2⟩ := fault_zero h0
        have PP := parse_print h0 T
        have RP := fun w1 (hb : Below w.heap.size w w1) => refPrint3_any A1 n1 c1 L w1 ((H1.out.below hb).more hb.size) (by omega)
        rw [h0] at PR FT RI
        rw [if_pos (rfl : (0 : Int) = 0)] at PR
        obtain ⟨nB, hnB⟩ : ∃ nB, (printL L).length = nB := ⟨_, rfl⟩
        have hnb : nB ≤ 65536 := by rw [← hnB, printL_length]; exact z2
        obtain ⟨PB, hPB⟩ : ∃ PB, printL L = PB := ⟨_, rfl⟩
        obtain ⟨S, hS⟩ : ∃ S : ByteArray, (⟨(printL L).toArray⟩ : ByteArray) = S := ⟨_, rfl⟩
        rw [hS] at RP
        rw [hnB] at PR PP
        rw [hPB] at PR PP hS
        have HS := Lib.hid hS
        have HPP := Lib.hid PP
        replace PR := Lib.hid PR
        replace FT := Lib.hid FT
        replace RI := Lib.hid RI
        replace RP := Lib.hid RP
        clear q1 p1 p2 M1 h0 z1 z2 PP hnB hPB hS h3
        go_enter Tryd.func7, Tryd.ntmps7
        go_wp2_with fail
        refine (AW.out _ Hsh.out).mono ?_
        rintro e w2 ⟨rfl, hb2⟩
        have B2 := Lib.hid hb2; clear hb2
        go_upto_region 10 with (first
          | (go_at_call 17; (with_reducible refine (SA.out _ B2.out).mono ?_); rintro e w3 ⟨rfl, rfl⟩)
          | (go_at_call 26; (with_reducible refine (PR.out _ B2.out).mono ?_); rintro e w3 ⟨v3, rfl, hrow3, hb3⟩; have B3 := Lib.hid (below_step B2.out hb3); obtain ⟨A3, C3, rfl, hsl3⟩ := own_slice hrow3; have Q3 := Lib.hid hsl3; clear hrow3 hb3 hsl3)
          | (go_at_call 27; (with_reducible refine (FT.out _ B3.out).mono ?_); rintro e w4 ⟨rfl, hb4⟩; have B4 := Lib.hid (below_step B3.out hb4); have Q4 := Lib.hid ((Q3.out.below hb4).more hb4.size); clear hb4)
          | (go_at_call 28; (with_reducible refine (RI.out _ B4.out).mono ?_); rintro e w5 ⟨rfl, hb5⟩; have B5 := Lib.hid (below_step B4.out hb5); have Q5 := Lib.hid ((Q4.out.below hb5).more hb5.size); have hB5 := B5.out.size; have Hown := Lib.hid (World.ownsRow_lit (base := w5.heap.size) (e := 5) (size := 1) w5 #[] 0 (Nat.le_refl _) (by simp [maxLen]) rfl); have B5a := Lib.hid (B5.out.alloc hB5 (.cells #[] 5)); have Q5a := Lib.hid (Q5.out.alloc (Nat.le_refl _) (.cells #[] 5)); clear hb5)
          | (at_builtin; refine wpList_appN u8_ty rfl _ _ rfl w5.heap.size _ 0 [] rfl Hown.out (by intro h; cases h) w5.heap.size A3 nB C3 (bytesV PB) rfl Q5a.out (bytesV_one PB) (by omega) (by simp only [maxLen]; omega) (by simp) ?_; intro g6 cap6 w6 hown6 hgr6; rw [Nat.zero_add, List.nil_append] at hown6; simp only [Nat.zero_add]; have B6 := Lib.hid (B5a.out.grown hgr6 (by simp; omega) (fun q hq => by have := (Hown.out.lt q hq).1; omega)); have R6 := Lib.hid hown6; have D6 := Lib.hid ((below_al w5 (.cells #[] 5)).grown hgr6 (by simp) (fun q hq => (Hown.out.lt q hq).1)); clear hown6 hgr6)
          | (at_builtin; refine wpList_appN u8_ty rfl _ _ rfl w5.heap.size _ nB (bytesV PB) rfl R6.out (by intro h; cases h) w.heap.size A2 n2 c2 (bytesV T) rfl (H2.out.below B6.out) (bytesV_one T) (by omega) (by simp only [maxLen]; omega) (by have := (R6.out.lt g6 rfl); omega) ?_; intro g7 cap7 w7 hown7 hgr7; rw [← bytesV_append] at hown7; have B7 := Lib.hid (B6.out.grown hgr7 B6.out.size (fun q hq => by have := (R6.out.lt q hq).1; omega)); have D7 := Lib.hid (D6.out.grown hgr7 D6.out.size (fun q hq => (R6.out.lt q hq).1)); have PA := fparse_any g7 0 (nB + n2) cap7 (PB ++ T) w7 (shaped_below Hsh.out B7.out) (SliceIn.of_own hown7) (by omega); rw [HPP.out] at PA; replace PA := Lib.hid PA; clear hown7 hgr7)
          | (go_at_call 14; refine PA.out.mono ?_; rintro e w8 ⟨v8, rfl, hrow8, hb8⟩; have B8 := Lib.hid (below_step B7.out hb8); obtain ⟨A8, C8, rfl, hsl8⟩ := own_slice hrow8; rw [hl1] at hsl8; have D8 := below_step D7.out hb8; have Q8 := Lib.hid ((Q5.out.below D8).more D8.size); have R8 := Lib.hid hsl8; clear hrow8 hb8 hsl8 D8))
        refine wp_region_tree (fun W => Below w8.heap.size w8 W) (.take 0 (.take 1 (.take 2 (.node (.fork 3 (.take 4 (.take 5 (.take 6 (.take 7 (.take 8 (.take 9 (.take 10 (.take 11 (.take 12 (.take 13 (.take 14 (.take 15 (.take 16 (.take 17 (.node (.fork 18 (.take 19 (.take 20 (.done))) (.stop))))))))))))))))) (.stop)))))) (by kernel_rfl) (by kernel_rfl) (of_decide_eq_true (by kernel_rfl)) rfl (by kernel_rfl) (below_drewN (Below.refl _ _) 1) ?_
        intro w1 hH
        iterate 3
          refine tree_take (v := ?_) rfl (by rfl) ?_ ?_
          rotate_left
          · intro w2 hSw
            have e0 := run_string_of (P := Tryd.prog) (Q8.out.below hSw) 22 9 5 Tryd.underlying22 Tryd.underlying5 Tryd.underlying9
            rw [HS.out] at e0
            clear hSw
            go_simp
            try with_reducible rfl
          try simp only [Act.put, List.setIfInBounds_toArray, List.set_cons_zero, List.set_cons_succ]
        refine tree_node ?_
        refine tree_move rfl (by rfl) (fun K hK => ?_) ?_
        · go_simp
          (with_reducible refine (RP.out _ (below_step B8.out hH.out)).mono ?_)
          rintro e w9 ⟨rfl, hb2⟩
          refine hK.out _ _ (below_step hH.out hb2) ?_
          clear hH hK hb2 K
          intro hH
          try simp only [Act.put, List.setIfInBounds_toArray, List.set_cons_zero, List.set_cons_succ]
          iterate 14
            refine tree_take (v := ?_) rfl (by rfl) ?_ ?_
            rotate_left
            · intro w2 hSw
              have e0 := run_string_of (P := Tryd.prog) (Q8.out.below hSw) 22 9 5 Tryd.underlying22 Tryd.underlying5 Tryd.underlying9
              rw [HS.out] at e0
              clear hSw
              go_simp
              try with_reducible rfl
            try simp only [Act.put, List.setIfInBounds_toArray, List.set_cons_zero, List.set_cons_succ]
          refine tree_node ?_
          refine tree_move rfl (by rfl) (fun K hK => ?_) ?_
          · go_simp
            (with_reducible refine (refSame3_any _ _ _ _ _ _ _ _ ((R8.out.below hH.out).more hH.out.size) ((H1.out.below (below_step B8.out hH.out)).more (below_step B8.out hH.out).size) (by omega)).mono ?_)
            rintro e w9 ⟨rfl, hb2⟩
            refine hK.out _ _ (below_step hH.out hb2) ?_
            clear hH hK hb2 K
            intro hH
            try simp only [Act.put, List.setIfInBounds_toArray, List.set_cons_zero, List.set_cons_succ]
            iterate 2
              refine tree_take (v := ?_) rfl (by rfl) ?_ ?_
              rotate_left
              · intro w2 hSw
                have e0 := run_string_of (P := Tryd.prog) (Q8.out.below hSw) 22 9 5 Tryd.underlying22 Tryd.underlying5 Tryd.underlying9
                rw [HS.out] at e0
                clear hSw
                go_simp
                try with_reducible rfl
              try simp only [Act.put, List.setIfInBounds_toArray, List.set_cons_zero, List.set_cons_succ]
            refine tree_done ?_
            have B9 := Lib.hid (below_step B8.out hH.out)
            clear hH
            go_wp2
            go_ret
            exact ⟨rfl, B9.out⟩
          exact tree_stop
        exact tree_stop
      · have E0 : (faultL L == 0) = false := by simpa using h0
        rw [if_neg h0] at PR
        rw [E0] at RI
        obtain ⟨E, hE⟩ : ∃ E, faultL L = E := ⟨_, rfl⟩
        rw [hE] at PR FT h0 E0
        simp only [List.length_nil] at PR
        replace PR := Lib.hid PR
        replace FT := Lib.hid FT
        replace RI := Lib.hid RI
        clear q1 p1 p2 M1 hE h3 hl1
        go_enter Tryd.func7, Tryd.ntmps7
        go_wp2_with fail
        refine (AW.out _ Hsh.out).mono ?_
        rintro e w2 ⟨rfl, hb2⟩
        have B2 := Lib.hid hb2; clear hb2
        go_wp2_with (first
          | (go_at_call 17; (with_reducible refine (SA.out _ B2.out).mono ?_); rintro e w3 ⟨rfl, rfl⟩)
          | (go_at_call 26; (with_reducible refine (PR.out _ B2.out).mono ?_); rintro e w3 ⟨v3, rfl, hrow3, hb3⟩; have B3 := Lib.hid (below_step B2.out hb3); obtain ⟨A3, C3, rfl, hsl3⟩ := own_slice hrow3; clear hrow3 hb3 hsl3)
          | (go_at_call 27; (with_reducible refine (FT.out _ B3.out).mono ?_); rintro e w4 ⟨rfl, hb4⟩; have B4 := Lib.hid (below_step B3.out hb4); clear hb4)
          | (go_at_call 28; (with_reducible refine (RI.out _ B4.out).mono ?_); rintro e w5 ⟨rfl, hb5⟩; have B5 := Lib.hid (below_step B4.out hb5); clear hb5))
        go_ret
        exact ⟨rfl, B5.out⟩
end Go.Proofs.YtpmidmdodjgeeaaDoor
