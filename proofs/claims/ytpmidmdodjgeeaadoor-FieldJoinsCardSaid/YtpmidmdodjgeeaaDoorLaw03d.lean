/- Layer 3's laws: FieldJoins, walked. Condition: the world's shape. -/
import Derived.Test.YtpmidmdodjgeeaaDoorLaw03c
import Derived.Test.YtpmidmdodjgeeaaDoorOct8
namespace Go.Proofs.YtpmidmdodjgeeaaDoor
open Go.RowKit IH
set_option maxRecDepth 100000
theorem slice_len1 {w : World} {B n c : Nat} {A : Option Addr} {L : List (List UInt8)} (h : SliceIn w B 1 A n c (strsV L)) : L.length = n := str_count h
set_option maxHeartbeats 8000000 in
theorem joins_walk (w : World) (hsh : w.ShapedOpen Tryd.prog) (A1 : Option Addr) (n1 c1 : Nat) (L1 : List Fld) (h1 : SliceIn w w.heap.size 2 A1 n1 c1 (fldsV L1)) (A2 : Option Addr) (n2 c2 : Nat) (L2 : List Fld) (h2 : SliceIn w w.heap.size 2 A2 n2 c2 (fldsV L2)) (s : ByteArray) (_ws : s.size ≤ maxLen) :
    Calls Tryd.prog 4 #[.slice A1 n1 c1, .slice A2 n2 c2, .string s] w fun e w' => e = .returned (.bool true) ∧ Below w.heap.size w w' := by
  have AW := Lib.hid (fun w hsh => awake03_any w hsh)
  have Hsh := Lib.hid hsh
  have H1 := Lib.hid h1
  have H2 := Lib.hid h2
  have hl1 := fld_count h1
  have hl2 := fld_count h2
  clear hsh h1 h2
  have SA := fun w1 (hb : Below w.heap.size w w1) => short_any A1 n1 c1 L1 20 w.heap.size w1 (H1.out.below hb) (by omega)
  have SB := fun w1 (hb : Below w.heap.size w w1) => short_any A2 n2 c2 L2 20 w.heap.size w1 (H2.out.below hb) (by omega)
  cases q1 : shortL 20 L1
  · rw [q1] at SA
    replace SA := Lib.hid SA
    clear q1 hl1 hl2 SB
    go_enter Tryd.func4, Tryd.ntmps4
    go_wp2_with fail
    refine (AW.out _ Hsh.out).mono ?_
    rintro e w2 ⟨rfl, hb2⟩
    have B2 := Lib.hid hb2; clear hb2
    go_wp2_with (go_at_call 17; refine (SA.out _ B2.out).mono ?_; rintro e w3 ⟨rfl, rfl⟩)
    refine (AW.out _ (shaped_below Hsh.out B2.out)).mono ?_
    rintro e w4 ⟨rfl, hb4⟩
    go_wp2
    go_ret
    exact ⟨rfl, below_step B2.out hb4⟩
  · rw [q1] at SA
    replace SA := Lib.hid SA
    cases q2 : shortL 20 L2
    · rw [q2] at SB
      replace SB := Lib.hid SB
      clear q1 q2 hl1 hl2
      go_enter Tryd.func4, Tryd.ntmps4
      go_wp2_with fail
      refine (AW.out _ Hsh.out).mono ?_
      rintro e w2 ⟨rfl, hb2⟩
      have B2 := Lib.hid hb2; clear hb2
      go_wp2_with (first
        | (go_at_call 17; (with_reducible refine (SA.out _ B2.out).mono ?_); rintro e w3 ⟨rfl, rfl⟩)
        | (go_at_call 17; (with_reducible refine (SB.out _ B2.out).mono ?_); rintro e w3 ⟨rfl, rfl⟩))
      refine (AW.out _ (shaped_below Hsh.out B2.out)).mono ?_
      rintro e w4 ⟨rfl, hb4⟩
      go_wp2
      go_ret
      exact ⟨rfl, below_step B2.out hb4⟩
    · rw [q2] at SB
      replace SB := Lib.hid SB
      by_cases h3 : 300 < s.size
      · have h3I : (300 : Int) < (s.size : Int) := by omega
        clear q1 q2 hl1 hl2 h3
        go_enter Tryd.func4, Tryd.ntmps4
        go_wp2_with fail
        refine (AW.out _ Hsh.out).mono ?_
        rintro e w2 ⟨rfl, hb2⟩
        have B2 := Lib.hid hb2; clear hb2
        go_wp2_with (first
          | (go_at_call 17; (with_reducible refine (SA.out _ B2.out).mono ?_); rintro e w3 ⟨rfl, rfl⟩)
          | (go_at_call 17; (with_reducible refine (SB.out _ B2.out).mono ?_); rintro e w3 ⟨rfl, rfl⟩))
        refine (AW.out _ (shaped_below Hsh.out B2.out)).mono ?_
        rintro e w4 ⟨rfl, hb4⟩
        go_wp2
        go_ret
        exact ⟨rfl, below_step B2.out hb4⟩
      · have h3I : (s.size : Int) ≤ (300 : Int) := by omega
        have hsz : s.size ≤ 1000000000 := by omega
        obtain ⟨p1, p2⟩ := shortL_small q1
        obtain ⟨p3, p4⟩ := shortL_small q2
        have hn1 : n1 ≤ 20 := by omega
        have hn2 : n2 ≤ 20 := by omega
        have M1 := smallF_mono p2 (show 2000 ≤ 1000000000 by omega)
        have M2 := smallF_mono p4 (show 2000 ≤ 1000000000 by omega)
        have MA : smallF 1000000000 (L1 ++ L2) := fun f hf => by
          rcases List.mem_append.1 hf with h | h
          · exact M1 f h
          · exact M2 f h
        obtain ⟨sl, hsl⟩ : ∃ sl, s.data.toList = sl := ⟨_, rfl⟩
        have hmk : (⟨sl.toArray⟩ : ByteArray) = s := by rw [← hsl, Lib.mk_data]
        have HS2 : Hid (strsV [sl, sl] = [.string s, .string s]) := Lib.hid (by unfold strsV; simp [hmk])
        have HS1 : Hid (strsV [sl] = [.string s]) := Lib.hid (by unfold strsV; simp [hmk])
        have MS2 : smallS 1000000000 [sl, sl] := fun x hx => by
          have : x = sl := by simpa using hx
          rw [this, ← hsl, data_len]; exact hsz
        have MS1 : smallS 1000000000 [sl] := fun x hx => by
          have : x = sl := by simpa using hx
          rw [this, ← hsl, data_len]; exact hsz
        have ga := get_append L1 L2 sl
        have gw := get_without (L1 ++ L2) sl
        have wl := without_length (L1 ++ L2) sl
        have wa := without_again (L1 ++ L2) sl
        have wle := without_length_le (L1 ++ L2) [sl, sl]
        have g1l := get_length L1 sl
        have g2l := get_length L2 sl
        obtain ⟨nA, hnA⟩ : ∃ nA, n1 + n2 = nA := ⟨_, rfl⟩
        have hAl : (L1 ++ L2).length = nA := by rw [List.length_append, hl1, hl2, hnA]
        rw [hAl] at wl wle
        have MW : smallF 1000000000 (withoutL (L1 ++ L2) [sl, sl]) := without_small [sl, sl] MA
        have GA1 := fun w1 (hb : Below w.heap.size w w1) => Get_any A1 n1 c1 L1 s w1 ((H1.out.below hb).more hb.size) (by omega) M1 hsz
        have GA2 := fun w1 (hb : Below w.heap.size w w1) => Get_any A2 n2 c2 L2 s w1 ((H2.out.below hb).more hb.size) (by omega) M2 hsz
        rw [hsl] at GA1 GA2
        obtain ⟨G1, hG1⟩ : ∃ G, getL L1 sl = G := ⟨_, rfl⟩
        obtain ⟨G2, hG2⟩ : ∃ G, getL L2 sl = G := ⟨_, rfl⟩
        rw [hG1] at GA1 ga g1l
        rw [hG2] at GA2 ga g2l
        obtain ⟨W, hW⟩ : ∃ W, withoutL (L1 ++ L2) [sl, sl] = W := ⟨_, rfl⟩
        rw [hW] at gw wl wa wle MW
        obtain ⟨All, hAll⟩ : ∃ All, L1 ++ L2 = All := ⟨_, rfl⟩
        rw [hAll] at ga wl MA hW hAl
        rw [ga, List.length_append] at wl
        obtain ⟨nX, hnX⟩ : ∃ nX, G1.length + G2.length = nX := ⟨_, rfl⟩
        rw [hnX] at wl
        have hX20 : nX ≤ nA := by omega
        have hA40 : nA ≤ 40 := by omega
        have hsub : (nA : Int) - (nX : Int) = (W.length : Int) := by omega
        have hwr : IntKind.i64.wrap ((nA : Int) - (nX : Int)) = (W.length : Int) := by rw [hsub]; exact IntWalk.i64_in _ ⟨by omega, by omega⟩
        have hg1 : G1.length ≤ 20 := by omega
        have hg2 : G2.length ≤ 20 := by omega
        have hWl : W.length ≤ 40 := by omega
        replace GA1 := Lib.hid GA1
        replace GA2 := Lib.hid GA2
        have HGA := Lib.hid ga
        have HGW := Lib.hid gw
        have HWA := Lib.hid wa
        have HW := Lib.hid hW
        have HAll := Lib.hid hAll
        have HnA := Lib.hid hnA
        have HnX := Lib.hid hnX
        have HAl := Lib.hid hAl
        have Hsl := Lib.hid hsl
        have Hsub := Lib.hid hsub
        have Hwr := Lib.hid hwr
        clear q1 q2 p1 p2 p3 p4 M1 M2 hmk ga gw wl wa wle g1l g2l hnA hAl hG1 hG2 hW hAll hnX hsl h3 hl1 hl2 hsub hwr
        go_enter Tryd.func4, Tryd.ntmps4
        go_wp2_with fail
        refine (AW.out _ Hsh.out).mono ?_
        rintro e w2 ⟨rfl, hb2⟩
        have B2 := Lib.hid hb2; clear hb2
        have Hown := Lib.hid (World.ownsRow_lit (base := w2.heap.size) (e := 44) (size := 2) w2 #[] 0 (Nat.le_refl _) (by simp [maxLen]) rfl)
        have hB2 := B2.out.size
        have B2a := Lib.hid (B2.out.alloc hB2 (.cells #[] 44))
        go_wp2_with (first
          | (go_at_call 17; (with_reducible refine (SA.out _ B2.out).mono ?_); rintro e w3 ⟨rfl, rfl⟩)
          | (go_at_call 17; (with_reducible refine (SB.out _ B2.out).mono ?_); rintro e w3 ⟨rfl, rfl⟩)
          | (at_builtin; refine wpList_appN fld_ty rfl _ _ rfl w2.heap.size _ 0 [] rfl Hown.out (by intro h; cases h) w.heap.size A1 n1 c1 (fldsV L1) rfl (H1.out.below B2a.out) (fldsV_one L1) (by omega) (by simp only [maxLen]; omega) (by simp) ?_; intro g3 cap3 w3 hown3 hgr3; rw [Nat.zero_add, List.nil_append] at hown3; simp only [Nat.zero_add]; have B3 := Lib.hid (B2a.out.grown hgr3 (by simp; omega) (fun q hq => by have := (Hown.out.lt q hq).1; omega)); have R3 := Lib.hid hown3; clear hown3 hgr3)
          | (at_builtin; refine wpList_appN fld_ty rfl _ _ rfl w2.heap.size _ n1 (fldsV L1) rfl R3.out (by intro h; cases h) w.heap.size A2 n2 c2 (fldsV L2) rfl (H2.out.below B3.out) (fldsV_one L2) (by omega) (by simp only [maxLen]; omega) (by have := (R3.out.lt g3 rfl); omega) ?_; intro g4 cap4 w4 hown4 hgr4; rw [← fldsV_append, HnA.out, HAll.out] at hown4; rw [HnA.out]; have B4 := Lib.hid (B3.out.grown hgr4 B3.out.size (fun q hq => by have := (R3.out.lt q hq).1; omega)); have RA := Lib.hid (SliceIn.of_own hown4); clear hown4 hgr4))
        have hB4 := B4.out.size
        have B5 := Lib.hid (B4.out.alloc hB4 (.cells #[] 9))
        have D5 := Lib.hid (below_al w4 (.cells #[] 9))
        have Hs5 := Lib.hid (World.ownsRow_lit (base := w4.heap.size) (e := 9) (size := 1) w4 #[] 0 (Nat.le_refl _) (by simp [maxLen]) rfl)
        refine (GA1.out _ B5.out).mono ?_
        rintro e w6 ⟨v6, rfl, hrow6, hb6⟩
        have B6 := Lib.hid (below_step B5.out hb6)
        have D6 := Lib.hid (below_step D5.out hb6)
        have Hs6 := Lib.hid (own_below Hs5.out hb6)
        obtain ⟨A6, C6, rfl, hsl6⟩ := own_slice hrow6
        have Q6 := Lib.hid hsl6
        have hB6 := D6.out.size
        have hB6w := B6.out.size
        clear hrow6 hb6 hsl6
        go_wp2_with (at_builtin; refine wpList_appN str_ty rfl _ _ rfl w4.heap.size _ 0 [] rfl Hs6.out (by intro h; cases h) _ A6 G1.length C6 (strsV G1) rfl Q6.out (strsV_one G1) (by omega) (by simp only [maxLen]; omega) hB6 ?_; intro g7 cap7 w7 hown7 hgr7; rw [Nat.zero_add, List.nil_append] at hown7; simp only [Nat.zero_add]; have B7 := Lib.hid (B6.out.grown hgr7 hB6w (fun q hq => by have := (Hs6.out.lt q hq).1; omega)); have D7 := Lib.hid (D6.out.grown hgr7 hB6 (fun q hq => (Hs6.out.lt q hq).1)); have R7 := Lib.hid hown7; clear hown7 hgr7)
        refine (GA2.out _ B7.out).mono ?_
        rintro e w8 ⟨v8, rfl, hrow8, hb8⟩
        have B8 := Lib.hid (below_step B7.out hb8)
        have D8 := Lib.hid (below_step D7.out hb8)
        have R8 := Lib.hid (own_below R7.out hb8)
        obtain ⟨A8, C8, rfl, hsl8⟩ := own_slice hrow8
        have Q8 := Lib.hid hsl8
        have hB8 := D8.out.size
        have hB8w := B8.out.size
        clear hrow8 hb8 hsl8
        go_wp2_with (at_builtin; refine wpList_appN str_ty rfl _ _ rfl w4.heap.size _ G1.length (strsV G1) rfl R8.out (by intro h; cases h) _ A8 G2.length C8 (strsV G2) rfl Q8.out (strsV_one G2) (by omega) (by simp only [maxLen]; omega) hB8 ?_; intro g9 cap9 w9 hown9 hgr9; rw [← strsV_append, HnX.out] at hown9; rw [HnX.out]; have B9 := Lib.hid (B8.out.grown hgr9 hB8w (fun q hq => by have := (R8.out.lt q hq).1; omega)); have D9 := Lib.hid (D8.out.grown hgr9 hB8 (fun q hq => (R8.out.lt q hq).1)); have RX := Lib.hid (SliceIn.of_own hown9); clear hown9 hgr9)
        have B10 := Lib.hid (B9.out.alloc B9.out.size (.cells #[.string s, .string s] 9))
        have D10 := Lib.hid (D9.out.alloc D9.out.size (.cells #[.string s, .string s] 9))
        have RN := (RowAt.new w9 9 [.string s, .string s]).slice (size := 1) (n := 2) (c := 2) rfl (Nat.le_refl _) (by simp [maxLen])
        have WO := Without_any (some ⟨g4, 0, none⟩) nA cap4 All (some ⟨w9.heap.size, 0, none⟩) 2 2 [sl, sl] _ ((RA.out.below D10.out).more D10.out.size) (by omega) MA (by rw [HS2.out]; exact RN) (by omega) MS2
        rw [HW.out] at WO
        refine WO.mono ?_
        rintro e w11 ⟨v11, rfl, hrow11, hb11⟩
        have B11 := Lib.hid (below_step B10.out hb11)
        have D11 := Lib.hid (below_step D10.out hb11)
        have X11 := Lib.hid (RX.out.below (below_al_step hb11))
        obtain ⟨A11, C11, rfl, hsl11⟩ := own_slice hrow11
        have Q11 := Lib.hid hsl11
        have hX11 : w9.heap.size ≤ w11.heap.size := (below_al_step hb11).size
        clear hrow11 hb11 hsl11 WO RN
        go_wp2_with fail
        have GA := Get_any (some ⟨g4, 0, none⟩) nA cap4 All s w11 ((RA.out.below D11.out).more D11.out.size) (by omega) MA hsz
        rw [Hsl.out, HGA.out] at GA
        refine GA.mono ?_
        rintro e w12 ⟨v12, rfl, hrow12, hb12⟩
        have B12 := Lib.hid (below_step B11.out hb12)
        have X12 := Lib.hid (X11.out.below (hb12.mono hX11))
        have Q12 := Lib.hid ((Q11.out.below hb12).more hb12.size)
        obtain ⟨A12, C12, rfl, hsl12⟩ := own_slice hrow12
        rw [List.length_append] at hsl12
        have Y12 := Lib.hid hsl12
        clear hrow12 hb12 hsl12 GA
        go_wp2_with fail
        have SS := Same_any A12 (some ⟨g9, 0, none⟩) (G1.length + G2.length) nX C12 cap9 (G1 ++ G2) (G1 ++ G2) w12 _ _ Y12.out X12.out
        rw [show sameL (G1 ++ G2) (G1 ++ G2) = true by unfold sameL; simp] at SS
        refine SS.mono ?_
        rintro e w13 ⟨rfl, q, rfl⟩
        clear SS
        have B13 := Lib.hid (below_drewN B12.out q)
        have Q13 := Lib.hid (Q12.out.drewN q)
        go_wp2_with fail
        have GW := Get_any A11 W.length C11 W s (w12.drewN q) Q13.out (by omega) MW hsz
        rw [Hsl.out, HGW.out] at GW
        refine GW.mono ?_
        rintro e w14 ⟨v14, rfl, hrow14, hb14⟩
        have B14 := Lib.hid (below_step B13.out hb14)
        have Q14 := Lib.hid ((Q13.out.below hb14).more hb14.size)
        obtain ⟨A14, C14, rfl, hsl14⟩ := own_slice hrow14
        clear hrow14 hb14 hsl14 GW
        have hsub := Hsub.out
        have hwr := Hwr.out
        go_wp2_with fail
        clear hsub hwr
        have RN1 := (RowAt.new w14 9 [.string s]).slice (size := 1) (n := 1) (c := 1) rfl (Nat.le_refl _) (by simp [maxLen])
        have B15 := Lib.hid (B14.out.alloc B14.out.size (.cells #[.string s] 9))
        have Q15 := Lib.hid ((Q14.out.alloc (Nat.le_refl _) (.cells #[.string s] 9)).more (B' := (w14.alloc (.cells #[.string s] 9)).heap.size) (by simp))
        have WO1 := Without_any A11 W.length C11 W (some ⟨w14.heap.size, 0, none⟩) 1 1 [sl] (w14.alloc (.cells #[.string s] 9)) Q15.out (by omega) MW (by rw [HS1.out]; exact RN1) (by omega) MS1
        rw [HWA.out] at WO1
        refine WO1.mono ?_
        rintro e w16 ⟨v16, rfl, hrow16, hb16⟩
        have B16 := Lib.hid (below_step B15.out hb16)
        have Q16 := Lib.hid ((Q15.out.below hb16).more hb16.size)
        obtain ⟨A16, C16, rfl, hsl16⟩ := own_slice hrow16
        have Y16 := Lib.hid hsl16
        clear hrow16 hb16 hsl16 WO1 RN1
        go_wp2_with fail
        refine (refSame3_any A16 W.length C16 A11 W.length C11 W w16 Y16.out Q16.out (by omega)).mono ?_
        rintro e w17 ⟨rfl, hb17⟩
        have B17 := Lib.hid (below_step B16.out hb17)
        clear hb17
        go_wp2
        go_ret
        exact ⟨rfl, B17.out⟩
end Go.Proofs.YtpmidmdodjgeeaaDoor
