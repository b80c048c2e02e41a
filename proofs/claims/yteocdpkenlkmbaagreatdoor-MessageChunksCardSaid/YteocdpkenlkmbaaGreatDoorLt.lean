/- Lt: several texts, one behind the other. -/
import Derived.Test.YteocdpkenlkmbaaGreatDoorLaw08b
import Derived.Test.YteocdpkenlkmbaaGreatDoorPb
/- Layer 8's laws: MessageTwo, its good way. Condition: as stated. Printed by mklaw08b.py. -/
namespace Go.Proofs.YteocdpkenlkmbaaGreatDoor
open Go.RowKit IH
set_option maxRecDepth 100000
theorem list7m {l : List Value} (h : l.length = 7) : ∃ a0 a1 a2 a3 a4 a5 a6, l = [a0, a1, a2, a3, a4, a5, a6] := by
  match l, h with
  | [a0, a1, a2, a3, a4, a5, a6], _ => exact ⟨a0, a1, a2, a3, a4, a5, a6, rfl⟩
theorem slice_conv (W : World) (S : ByteArray) (hs : S.size ≤ 1000000) : SliceIn (Lib.bytesWorld W 5 S) (Lib.bytesWorld W 5 S).heap.size 1 (some ⟨W.heap.size, 0, none⟩) S.size (grownCap W S.size 0 5) (bytesV S.data.toList) :=
  (RowAt.bytes W 5 S).slice (size := 1) (n := S.size) (by rw [bytesV_length, data_len, Nat.mul_one]) (grownCap_ge W _ 0 5) (grownCap_le_maxLen W _ 0 5 (by simp only [maxLen]; omega))
theorem conv_lt (W : World) (S : ByteArray) : W.heap.size < (Lib.bytesWorld W 5 S).heap.size := (RowAt.bytes W 5 S).lt
set_option maxHeartbeats 64000000 in
theorem mt_good (C D : List Value) (hC : RightC C) (hD : RightC D) (sa sb : Int) (ha : C[2]? = some (.int .i64 sa)) (hb : D[2]? = some (.int .i64 sb)) (M Sa Sb : ByteArray) (G H : List Value → World → Prop) (w : World) (hst : (sa == 0) = (sb == 0)) (hSa : Sa.size ≤ 400000) (hSb : Sb.size ≤ 400000)
    (AW : ∀ W, Below w.heap.size w W → Calls Tryz.prog 21 #[] W fun e w' => e = .returned (.bool true) ∧ Below W.heap.size W w')
    (SA : ∀ W, Below w.heap.size w W → Calls Tryz.prog 28 #[.agg C.toArray, .string M] W fun e w' => e = .returned (.bool true) ∧ Below W.heap.size W w')
    (SB : ∀ W, Below w.heap.size w W → Calls Tryz.prog 28 #[.agg D.toArray, .string M] W fun e w' => e = .returned (.bool true) ∧ Below W.heap.size W w')
    (RA : ∀ W, Below w.heap.size w W → Calls Tryz.prog 29 #[.agg C.toArray, .string M] W fun e w' => e = .returned (.bool true) ∧ Below W.heap.size W w')
    (RB : ∀ W, Below w.heap.size w W → Calls Tryz.prog 29 #[.agg D.toArray, .string M] W fun e w' => e = .returned (.bool true) ∧ Below W.heap.size W w')
    (PA : ∀ W, Below w.heap.size w W → Calls Tryz.prog 30 #[.agg C.toArray, .string M] W fun e w' => e = .returned (.string Sa) ∧ Below W.heap.size W w')
    (PB : ∀ W, Below w.heap.size w W → Calls Tryz.prog 30 #[.agg D.toArray, .string M] W fun e w' => e = .returned (.string Sb) ∧ Below W.heap.size W w')
    (U1 : ∀ W g cap, Below w.heap.size w W → g < W.heap.size → SliceIn W W.heap.size 1 (some ⟨g, 0, none⟩) (Sa ++ Sb).size cap (bytesV (Sa ++ Sb).data.toList) → Calls Tryz.prog 31 #[.slice (some ⟨g, 0, none⟩) (Sa ++ Sb).size cap, .bool (sa == 0), .string M] W fun e w' => ∃ E, e = .returned (.tuple #[.agg E.toArray, .int .i64 Sa.size, .int .i64 0]) ∧ G E w' ∧ Below W.heap.size W w')
    (U2 : ∀ W g cap, Below w.heap.size w W → g < W.heap.size → SliceIn W W.heap.size 1 (some ⟨g, 0, none⟩) Sb.size cap (bytesV Sb.data.toList) → Calls Tryz.prog 31 #[.slice (some ⟨g, 0, none⟩) Sb.size cap, .bool (sa == 0), .string M] W fun e w' => ∃ E, e = .returned (.tuple #[.agg E.toArray, .int .i64 Sb.size, .int .i64 0]) ∧ RightC E ∧ (∀ W', Fresh W.heap.size w' W' → H E W') ∧ Below W.heap.size W w')
    (GB : ∀ D W W', G D W → Below W.heap.size W W' → G D W') (HB : ∀ D W W', H D W → Below W.heap.size W W' → H D W')
    (GC : ∀ D W, G D W → RightC D)
    (SM1 : ∀ W E, Below w.heap.size w W → G E W → Calls Tryz.prog 27 #[.agg E.toArray, .agg C.toArray] W fun e w' => e = .returned (.bool true) ∧ Below W.heap.size W w')
    (SM2 : ∀ W E, Below w.heap.size w W → H E W → Calls Tryz.prog 27 #[.agg E.toArray, .agg D.toArray] W fun e w' => e = .returned (.bool true) ∧ Below W.heap.size W w') :
    Calls Tryz.prog 6 #[.agg C.toArray, .agg D.toArray, .string M] w fun e w' => e = .returned (.bool true) ∧ Below w.heap.size w w' := by
  have C7 := Lib.hid hC.1
  have D7 := Lib.hid hD.1
  have HMi : Hid ((Tryz.prog.info? 49).map (·.size) = some 7) := Lib.hid (by kernel_rfl)
  obtain ⟨w1, hw1⟩ : ∃ W : World, w.alloc (.cells C.toArray 49) = W := ⟨_, rfl⟩
  obtain ⟨w2, hw2⟩ : ∃ W : World, w1.alloc (.cells D.toArray 49) = W := ⟨_, rfl⟩
  have B1 : Below w.heap.size w w1 := by rw [← hw1]; exact (Below.refl _ _).alloc (Nat.le_refl _) _
  have B2 : Hid (Below w.heap.size w w2) := Lib.hid (below_step B1 (by rw [← hw2]; exact (Below.refl _ _).alloc (Nat.le_refl _) _))
  have Ra1 : RowAt w1 w.heap.size 49 C := by rw [← hw1]; exact RowAt.new w 49 C
  have Ra : Hid (RowAt w2 w.heap.size 49 C) := Lib.hid (by rw [← hw2]; exact Ra1.alloc _)
  have Rb : Hid (RowAt w2 w1.heap.size 49 D) := Lib.hid (by rw [← hw2]; exact RowAt.new w1 49 D)
  have HCi : Hid ((Tryz.prog.info? 49).map (·.size) = some C.length) := Lib.hid (by rw [hC.1]; exact HMi.out)
  have HDi : Hid ((Tryz.prog.info? 49).map (·.size) = some D.length) := Lib.hid (by rw [hD.1]; exact HMi.out)
  have a2 := Ra.out.cell (j := 2) ha
  have b2 := Rb.out.cell (j := 2) hb
  have HcA := Lib.hid ha
  have HcB := Lib.hid hb
  have tokA : Hid True := Lib.hid trivial
  clear B1 Ra1 hC hD ha hb
  have GI : Hid (∀ E : List Value, RightC E → (Tryz.prog.info? 49).map (·.size) = some E.length) := Lib.hid (fun E h => by rw [h.1]; exact HMi.out)
  obtain ⟨Sab, hSab⟩ : ∃ x : ByteArray, Sa ++ Sb = x := ⟨_, rfl⟩
  have hzs : Sab.size = Sa.size + Sb.size := by rw [← hSab, ← data_len, append_data, List.length_append, data_len, data_len]
  have hex : Sab.extract Sa.size Sab.size = Sb := bytes_inj (by rw [drop_data, ← hSab, append_data, List.drop_left' (data_len Sa)])
  rw [hSab] at U1
  obtain ⟨la, hla⟩ : ∃ x, Sa.size = x := ⟨_, rfl⟩
  obtain ⟨lb, hlb⟩ : ∃ x, Sb.size = x := ⟨_, rfl⟩
  rw [hla] at hex U1
  rw [hlb] at U2
  have hSabz : Sab.size ≤ 800000 := by omega
  have HSabz := Lib.hid hSabz
  have HSbz := Lib.hid hSb
  have Hlb := Lib.hid hlb
  have zSa : Sa.size ≤ 400000 := hSa
  have zSb : Sb.size ≤ 400000 := hSb
  have k1 : ¬ (Sab.size : Int) < (la : Int) := by omega
  have k2 : (la : Int) ≤ (Sab.size : Int) := by omega
  have k3 : (la : Int) + (lb : Int) = (Sab.size : Int) := by omega
  have k4 : IntKind.i64.wrap ((la : Int) + (lb : Int)) = (Sab.size : Int) := by rw [IntWalk.i64_in _ ⟨by omega, by omega⟩]; omega
  obtain ⟨za, hza⟩ : ∃ x, (sa == 0) = x := ⟨_, rfl⟩
  obtain ⟨zb, hzb⟩ : ∃ x, (sb == 0) = x := ⟨_, rfl⟩
  rw [hza] at U1 U2
  rw [hza, hzb] at hst
  have hne : (za == zb) = true := by rw [beq_iff_eq]; exact hst
  replace AW := Lib.hid AW
  replace SA := Lib.hid SA
  replace SB := Lib.hid SB
  replace RA := Lib.hid RA
  replace RB := Lib.hid RB
  replace PA := Lib.hid PA
  replace PB := Lib.hid PB
  replace U1 := Lib.hid U1
  replace U2 := Lib.hid U2
  replace GB := Lib.hid GB
  replace HB := Lib.hid HB
  replace GC := Lib.hid GC
  replace SM1 := Lib.hid SM1
  replace SM2 := Lib.hid SM2
  have K1 := Lib.hid k1
  have K2 := Lib.hid k2
  have K4 := Lib.hid k4
  have KX := Lib.hid hex
  have KS := Lib.hid hSab
  have ZA := Lib.hid zSa
  have ZB := Lib.hid zSb
  clear hst hla hlb hzs hSa hSb hSabz k3 k1 k2 k4 hex hSab zSa zSb
  go_enter Tryz.func6, Tryz.ntmps6
  go_upto_region 1 with fail
  go_cut [50] from 14 to 50 (fun s50 wx => s50 = .bool false ∧ RowAt wx w.heap.size 49 C ∧ RowAt wx w1.heap.size 49 D ∧ Below w.heap.size w wx)
  case first =>
    clear PA PB U1 U2 GB HB GC SM1 SM2 GI K1 K2 K4 KX KS ZA ZB HSabz HSbz Hlb
    go_wp2_with (first
      | (have _t := tokA; go_at_call 21; (with_reducible refine (AW.out _ B2.out).mono ?_); rintro e w3 ⟨rfl, hb3⟩; have B3 := Lib.hid (below_step B2.out hb3); have Ra3 := Lib.hid (Ra.out.below hb3 Ra.out.lt); have Rb3 := Lib.hid (Rb.out.below hb3 Rb.out.lt); have tokB : Hid True := Lib.hid trivial; clear hb3 tokA _t)
      | (have _t := tokB; refine wpList_load_g (by first | exact wanted_un rfl | exact wanted_yes rfl rfl rfl rfl | exact (wanted_is rfl rfl rfl rfl).trans (by simp; omega) | exact (wanted_is rfl rfl rfl rfl).trans (by simp)) 49 _ rfl w.heap.size 0 rfl C _ (rangeOf Ra3.out) Tryz.underlying49 rfl HCi.out ?_)
      | (have _t := tokB; go_at_call 28; (with_reducible refine (SA.out _ B3.out).mono ?_); rintro e w4 ⟨rfl, hb4⟩; have B4 := Lib.hid (below_step B3.out hb4); have Ra4 := Lib.hid (Ra3.out.below hb4 Ra3.out.lt); have Rb4 := Lib.hid (Rb3.out.below hb4 Rb3.out.lt); have tokC : Hid True := Lib.hid trivial; clear hb4 tokB _t)
      | (have _t := tokC; refine wpList_load_g (by first | exact wanted_un rfl | exact wanted_yes rfl rfl rfl rfl | exact (wanted_is rfl rfl rfl rfl).trans (by simp; omega) | exact (wanted_is rfl rfl rfl rfl).trans (by simp)) 49 _ rfl w1.heap.size 0 rfl D _ (rangeOf Rb4.out) Tryz.underlying49 rfl HDi.out ?_)
      | (have _t := tokC; go_at_call 28; (with_reducible refine (SB.out _ B4.out).mono ?_); rintro e w5 ⟨rfl, hb5⟩; have B5 := Lib.hid (below_step B4.out hb5); have Ra5 := Lib.hid (Ra4.out.below hb5 Ra4.out.lt); have Rb5 := Lib.hid (Rb4.out.below hb5 Rb4.out.lt); have a5 := Ra5.out.cell (j := 2) HcA.out; have b5 := Rb5.out.cell (j := 2) HcB.out; have tokD : Hid True := Lib.hid trivial; clear hb5 tokC _t)
      | (have _t := tokD; refine wpList_load_g (by first | exact wanted_un rfl | exact wanted_yes rfl rfl rfl rfl | exact (wanted_is rfl rfl rfl rfl).trans (by simp; omega) | exact (wanted_is rfl rfl rfl rfl).trans (by simp)) 49 _ rfl w.heap.size 0 rfl C _ (rangeOf Ra5.out) Tryz.underlying49 rfl HCi.out ?_)
      | (have _t := tokD; go_at_call 29; (with_reducible refine (RA.out _ B5.out).mono ?_); rintro e w6 ⟨rfl, hb6⟩; have B6 := Lib.hid (below_step B5.out hb6); have Ra6 := Lib.hid (Ra5.out.below hb6 Ra5.out.lt); have Rb6 := Lib.hid (Rb5.out.below hb6 Rb5.out.lt); have tokE : Hid True := Lib.hid trivial; clear hb6 tokD _t)
      | (have _t := tokE; refine wpList_load_g (by first | exact wanted_un rfl | exact wanted_yes rfl rfl rfl rfl | exact (wanted_is rfl rfl rfl rfl).trans (by simp; omega) | exact (wanted_is rfl rfl rfl rfl).trans (by simp)) 49 _ rfl w1.heap.size 0 rfl D _ (rangeOf Rb6.out) Tryz.underlying49 rfl HDi.out ?_)
      | (have _t := tokE; go_at_call 29; (with_reducible refine (RB.out _ B6.out).mono ?_); rintro e w7 ⟨rfl, hb7⟩; have B7 := Lib.hid (below_step B6.out hb7); have Ra7 := Lib.hid (Ra6.out.below hb7 Ra6.out.lt); have Rb7 := Lib.hid (Rb6.out.below hb7 Rb6.out.lt); have tokF : Hid True := Lib.hid trivial; clear hb7 tokE _t))
    go_meet
    exact ⟨rfl, Ra7.out, Rb7.out, B7.out⟩
  case rest =>
  obtain ⟨w7, hw7⟩ : ∃ W : World, W = wc := ⟨_, rfl⟩
  subst hw7
  obtain ⟨rfl, hra7, hrb7, hb7⟩ := hcut
  have B7 := Lib.hid hb7
  have Ra7 := Lib.hid hra7
  have Rb7 := Lib.hid hrb7
  clear hra7 hrb7 hb7
  go_upto_region 3 with fail
  clear AW SA SB RA RB a2 b2
  have hSab := KS.out
  have zSa := ZA.out
  obtain ⟨p0, p1, p2, p3, p4, p5, p6, hCe⟩ := list7m C7.out
  obtain ⟨r0, r1, r2, r3, r4, r5, r6, hDe⟩ := list7m D7.out
  have HCe := Lib.hid hCe
  have HDe := Lib.hid hDe
  clear hCe hDe
  have zSb := ZB.out
  go_cut [7] from 52 to 58 (fun s7 wx => s7 = .string Sab ∧ Below w7.heap.size w7 wx)
  case first =>
    refine wp_region_tree (fun W => Below w7.heap.size w7 W) (.take 0 (.take 1 (.take 3 (.take 4 (.node (.fork 2 (.node (.fork 5 (.take 6 (.take 7 (.done))) (.stop))) (.stop))))))) (by kernel_rfl) (by kernel_rfl) (of_decide_eq_true (by kernel_rfl)) rfl (by kernel_rfl) (below_drewN (Below.refl _ _) 1) ?_
    intro w1 hH
    iterate 4
      refine tree_take (v := ?_) rfl (by rfl) ?_ ?_
      rotate_left
      · intro w2 hSw
        have ra := Ra7.out.below hSw Ra7.out.lt
        have rb := Rb7.out.below hSw Rb7.out.lt
        have x0 := ra.cell (j := 0) (u := p0) (by rw [HCe.out]; rfl)
        have x1 := ra.cell (j := 1) (u := p1) (by rw [HCe.out]; rfl)
        have x2 := ra.cell (j := 2) (u := p2) (by rw [HCe.out]; rfl)
        have x3 := ra.cell (j := 3) (u := p3) (by rw [HCe.out]; rfl)
        have x4 := ra.cell (j := 4) (u := p4) (by rw [HCe.out]; rfl)
        have x5 := ra.cell (j := 5) (u := p5) (by rw [HCe.out]; rfl)
        have x6 := ra.cell (j := 6) (u := p6) (by rw [HCe.out]; rfl)
        have y0 := rb.cell (j := 0) (u := r0) (by rw [HDe.out]; rfl)
        have y1 := rb.cell (j := 1) (u := r1) (by rw [HDe.out]; rfl)
        have y2 := rb.cell (j := 2) (u := r2) (by rw [HDe.out]; rfl)
        have y3 := rb.cell (j := 3) (u := r3) (by rw [HDe.out]; rfl)
        have y4 := rb.cell (j := 4) (u := r4) (by rw [HDe.out]; rfl)
        have y5 := rb.cell (j := 5) (u := r5) (by rw [HDe.out]; rfl)
        have y6 := rb.cell (j := 6) (u := r6) (by rw [HDe.out]; rfl)
        clear ra rb
        clear hSw
        go_simp
        try with_reducible rfl
      try simp only [Act.put, List.setIfInBounds_toArray, List.set_cons_zero, List.set_cons_succ]
    refine tree_node ?_
    refine tree_move rfl (by rfl) (fun K hK => ?_) ?_
    · go_simp
      rw [show (Value.agg #[p0, p1, p2, p3, p4, p5, p6]) = .agg C.toArray from by rw [HCe.out]]
      (with_reducible refine (PA.out _ (below_step B7.out hH.out)).mono ?_)
      rintro e w5 ⟨rfl, hb5⟩
      refine hK.out _ _ (below_step hH.out hb5) ?_
      clear hH hK hb5 K
      intro hH
      try simp only [Act.put, List.setIfInBounds_toArray, List.set_cons_zero, List.set_cons_succ]
      refine tree_node ?_
      refine tree_move rfl (by rfl) (fun K hK => ?_) ?_
      · go_simp
        rw [show (Value.agg #[r0, r1, r2, r3, r4, r5, r6]) = .agg D.toArray from by rw [HDe.out]]
        (with_reducible refine (PB.out _ (below_step B7.out hH.out)).mono ?_)
        rintro e w5 ⟨rfl, hb5⟩
        refine hK.out _ _ (below_step hH.out hb5) ?_
        clear hH hK hb5 K
        intro hH
        try simp only [Act.put, List.setIfInBounds_toArray, List.set_cons_zero, List.set_cons_succ]
        iterate 1
          refine tree_add rfl (by rfl) _ _ _ _ rfl _ _ (by rfl) (by rfl) (by omega) ?_
          try simp only [Act.put, List.setIfInBounds_toArray, List.set_cons_zero, List.set_cons_succ]
        iterate 1
          refine tree_take (v := ?_) rfl (by rfl) ?_ ?_
          rotate_left
          · intro w2 hSw
            have ra := Ra7.out.below hSw Ra7.out.lt
            have rb := Rb7.out.below hSw Rb7.out.lt
            have x0 := ra.cell (j := 0) (u := p0) (by rw [HCe.out]; rfl)
            have x1 := ra.cell (j := 1) (u := p1) (by rw [HCe.out]; rfl)
            have x2 := ra.cell (j := 2) (u := p2) (by rw [HCe.out]; rfl)
            have x3 := ra.cell (j := 3) (u := p3) (by rw [HCe.out]; rfl)
            have x4 := ra.cell (j := 4) (u := p4) (by rw [HCe.out]; rfl)
            have x5 := ra.cell (j := 5) (u := p5) (by rw [HCe.out]; rfl)
            have x6 := ra.cell (j := 6) (u := p6) (by rw [HCe.out]; rfl)
            have y0 := rb.cell (j := 0) (u := r0) (by rw [HDe.out]; rfl)
            have y1 := rb.cell (j := 1) (u := r1) (by rw [HDe.out]; rfl)
            have y2 := rb.cell (j := 2) (u := r2) (by rw [HDe.out]; rfl)
            have y3 := rb.cell (j := 3) (u := r3) (by rw [HDe.out]; rfl)
            have y4 := rb.cell (j := 4) (u := r4) (by rw [HDe.out]; rfl)
            have y5 := rb.cell (j := 5) (u := r5) (by rw [HDe.out]; rfl)
            have y6 := rb.cell (j := 6) (u := r6) (by rw [HDe.out]; rfl)
            clear ra rb
            clear hSw
            go_simp
            try with_reducible rfl
          try simp only [Act.put, List.setIfInBounds_toArray, List.set_cons_zero, List.set_cons_succ]
        refine tree_done ?_
        go_wp2_with fail
        (try rw [hSab])
        go_meet
        exact ⟨rfl, hH.out⟩
      exact tree_stop
    exact tree_stop
  case rest =>
    obtain ⟨w8, hw8⟩ : ∃ W : World, W = wc := ⟨_, rfl⟩
    subst hw8
    obtain ⟨rfl, hcb⟩ := hcut
    have B8 := Lib.hid (below_step B7.out hcb)
    have Ra8 := Lib.hid (Ra7.out.below hcb Ra7.out.lt)
    have Rb8 := Lib.hid (Rb7.out.below hcb Rb7.out.lt)
    clear hcb hSab PA PB zSa zSb
    have k1 := K1.out
    have k2 := K2.out
    have hex := KX.out
    have k4 := K4.out
    have cv8 := Lib.run_convert_string_bytes (P := Tryz.prog) w8 9 38 5 Sab Tryz.underlying9 Tryz.underlying38 Tryz.underlying5
    obtain ⟨wB, hwB⟩ : ∃ W, Lib.bytesWorld w8 5 Sab = W := ⟨_, rfl⟩
    obtain ⟨cB, hcB⟩ : ∃ c, grownCap w8 Sab.size 0 5 = c := ⟨_, rfl⟩
    have sB := slice_conv w8 Sab (by have := HSabz.out; omega)
    have bB := below_bytesWorld w8 5 Sab
    have lB := conv_lt w8 Sab
    rw [hwB, hcB] at cv8 sB
    rw [hwB] at bB lB
    have BB := Lib.hid (below_step B8.out bB)
    have RaB := Lib.hid (Ra8.out.below bB Ra8.out.lt)
    have RbB := Lib.hid (Rb8.out.below bB Rb8.out.lt)
    have a9 := RaB.out.cell (j := 2) HcA.out
    have U1B := Lib.hid (U1.out wB w8.heap.size cB BB.out lB sB)
    clear sB bB lB hwB hcB U1 Ra8 Rb8
    go_upto_region 7 with (first
      | (go_at_call 31; (with_reducible refine U1B.out.mono ?_); rintro e w9 ⟨E, rfl, hg9, hb9⟩; have B9 := Lib.hid (below_step BB.out hb9); have Ra9 := Lib.hid (RaB.out.below hb9 RaB.out.lt); have Rb9 := Lib.hid (RbB.out.below hb9 RbB.out.lt); have E9 := Lib.hid (GC.out _ _ hg9); have G9 := Lib.hid hg9; have tokG : Hid True := Lib.hid trivial; clear hb9 hg9)
      | (have _t := tokG; refine wpList_store_row rfl 49 _ _ rfl w9.heap.size _ E zeroM rfl rfl (RowAt.new w9 49 _) (by rw [E9.out.1]; rfl) (GI.out _ E9.out) E9.out.2 ?_; intro w10 hro hoo
         have hb10 := hoo.below ((Below.refl w9.heap.size w9).alloc (Nat.le_refl _) _) (Nat.le_refl _)
         have B10 := Lib.hid (below_step B9.out hb10)
         have G10 := Lib.hid (GB.out _ _ _ G9.out hb10)
         have Ra10 := Lib.hid (Ra9.out.below hb10 Ra9.out.lt)
         have Rb10 := Lib.hid (Rb9.out.below hb10 Rb9.out.lt)
         have RE := Lib.hid hro
         clear hro hoo hb10 tokG _t G9)
      | (refine wpList_load_g (by first | exact wanted_un rfl | exact wanted_yes rfl rfl rfl rfl | exact (wanted_is rfl rfl rfl rfl).trans (by simp; omega) | exact (wanted_is rfl rfl rfl rfl).trans (by simp)) 49 _ rfl w9.heap.size 0 rfl E _ (rangeOf RE.out) Tryz.underlying49 rfl (GI.out _ E9.out) ?_)
      | (refine wpList_load_g (by first | exact wanted_un rfl | exact wanted_yes rfl rfl rfl rfl | exact (wanted_is rfl rfl rfl rfl).trans (by simp; omega) | exact (wanted_is rfl rfl rfl rfl).trans (by simp)) 49 _ rfl w.heap.size 0 rfl C _ (rangeOf Ra10.out) Tryz.underlying49 rfl HCi.out ?_)
      | (go_at_call 27; (with_reducible refine (SM1.out _ _ B10.out G10.out).mono ?_); rintro e w11 ⟨rfl, hb11⟩; have B11 := Lib.hid (below_step B10.out hb11); have Ra11 := Lib.hid (Ra10.out.below hb11 Ra10.out.lt); have Rb11 := Lib.hid (Rb10.out.below hb11 Rb10.out.lt); clear hb11))
    clear U1B SM1 RE G10 a9
    have kd : decide (Sab.size < la) = false := decide_eq_false (by have := K1.out; omega)
    simp only [kd]
    clear kd
    go_cut [11, 12, 13] from 85 to 98 (fun s11 s12 s13 wx => ∃ g E, s11 = .pointer (some ⟨g, 0, none⟩) ∧ s12 = .int .i64 lb ∧ s13 = .int .i64 0 ∧ RowAt wx g 49 E ∧ RightC E ∧ H E wx ∧ Below w11.heap.size w11 wx)
    case first =>
      refine wp_region_tree (fun W => Below w11.heap.size w11 W) (.take 0 (.take 1 (.take 2 (.take 4 (.take 5 (.take 6 (.take 7 (.take 8 (.node (.fork 3 (.node (.fork 9 (.take 10 (.take 11 (.take 12 (.take 13 (.node (.fork 14 (.node (.fork 15 (.take 16 (.take 17 (.done))) (.stop))) (.stop))))))) (.fork 14 (.node (.fork 9 (.take 10 (.take 11 (.take 12 (.take 13 (.node (.fork 15 (.take 16 (.take 17 (.done))) (.stop))))))) (.stop))) (.stop)))) (.fork 14 (.node (.fork 3 (.node (.fork 9 (.take 10 (.take 11 (.take 12 (.take 13 (.node (.fork 15 (.take 16 (.take 17 (.done))) (.stop))))))) (.stop))) (.stop))) (.stop)))))))))))) (by kernel_rfl) (by kernel_rfl) (of_decide_eq_true (by kernel_rfl)) rfl (by kernel_rfl) (below_drewN (Below.refl _ _) 1) ?_
      intro w1 hH
      iterate 8
        refine tree_take (v := ?_) rfl (by rfl) ?_ ?_
        rotate_left
        · intro w2 hSw
          have ra := Ra11.out.below hSw Ra11.out.lt
          have x2 := ra.cell (j := 2) HcA.out
          clear ra
          clear hSw
          go_simp
          try with_reducible rfl
        try simp only [Act.put, List.setIfInBounds_toArray, List.set_cons_zero, List.set_cons_succ]
      refine tree_node ?_
      refine tree_move rfl (by rfl) (fun K hK => ?_) ?_
      · refine wp_conv 9 38 5 _ Sb lb rfl rfl Tryz.underlying9 Tryz.underlying38 Tryz.underlying5 Hlb.out (by have := HSbz.out; have := Hlb.out; omega) ?_
        intro g3 c3 w3 hs3 hg3 hb3
        refine hK.out _ _ (below_step hH.out hb3) ?_
        have SL3 := Lib.hid hs3
        have HG3 := Lib.hid hg3
        try (replace FB := Lib.hid (FB.out.below hb3 FB.out.lt))
        clear hH hK K hs3 hg3 hb3
        intro hH
        try simp only [Act.put, List.setIfInBounds_toArray, List.set_cons_zero, List.set_cons_succ]
        refine tree_node ?_
        refine tree_move rfl (by rfl) (fun K hK => ?_) ?_
        · go_simp
          try (have GL := Lib.hid FB.out.lt)
          (with_reducible refine (U2.out _ _ _ (below_step B11.out hH.out) HG3.out SL3.out).mono ?_)
          rintro e w5 ⟨E, rfl, hE5, hF5, hb5⟩
          refine hK.out _ _ (below_step hH.out hb5) ?_
          try (replace FB := Lib.hid (FB.out.below hb5 FB.out.lt))
          have EE := Lib.hid hE5
          have FR := fresh_start (hF5 _)
          have HF5 := Lib.hid hF5
          clear hH hK K hE5 hF5 hb5 SL3 HG3
          intro hH
          try simp only [Act.put, List.setIfInBounds_toArray, List.set_cons_zero, List.set_cons_succ]
          iterate 4
            refine tree_take (v := ?_) rfl (by rfl) ?_ ?_
            rotate_left
            · intro w2 hSw
              have ra := Ra11.out.below hSw Ra11.out.lt
              have x2 := ra.cell (j := 2) HcA.out
              clear ra
              clear hSw
              go_simp
              try with_reducible rfl
            try simp only [Act.put, List.setIfInBounds_toArray, List.set_cons_zero, List.set_cons_succ]
          refine tree_node ?_
          refine tree_move rfl (by rfl) (fun K hK => ?_) ?_
          · go_simp
            refine hK.out _ _ (hH.out.alloc hH.out.size _) ?_
            have FB := Lib.hid (row_at hH 49 [.string ⟨#[]⟩, .string ⟨#[]⟩, .int .i64 0, .string ⟨#[]⟩, .int .i64 0, .slice none 0 0, .slice none 0 0])
            have HG := Lib.hid hH.out.size
            try (replace FR := Lib.hid (FR.out.alloc (.cells #[.string ⟨#[]⟩, .string ⟨#[]⟩, .int .i64 0, .string ⟨#[]⟩, .int .i64 0, .slice none 0 0, .slice none 0 0] 49)))
            try (replace SL3 := Lib.hid ((SL3.out.alloc (Nat.le_refl _) (.cells #[.string ⟨#[]⟩, .string ⟨#[]⟩, .int .i64 0, .string ⟨#[]⟩, .int .i64 0, .slice none 0 0, .slice none 0 0] 49)).more (B' := (World.alloc w3 (.cells #[.string ⟨#[]⟩, .string ⟨#[]⟩, .int .i64 0, .string ⟨#[]⟩, .int .i64 0, .slice none 0 0, .slice none 0 0] 49)).heap.size) (by simp)))
            try (replace HG3 := Lib.hid (Nat.lt_of_lt_of_le HG3.out (show _ ≤ (World.alloc w3 (.cells #[.string ⟨#[]⟩, .string ⟨#[]⟩, .int .i64 0, .string ⟨#[]⟩, .int .i64 0, .slice none 0 0, .slice none 0 0] 49)).heap.size by simp)))
            clear hH hK K
            intro hH
            try simp only [Act.put, List.setIfInBounds_toArray, List.set_cons_zero, List.set_cons_succ]
            refine tree_node ?_
            refine tree_move rfl (by rfl) (fun K hK => ?_) ?_
            · refine wp_store_row 49 _ _ rfl _ _ E _ rfl rfl FB.out (by rw [EE.out.1]; rfl) (GI.out _ EE.out) EE.out.2 ?_
              intro w7 hr7 ho7
              refine hK.out _ _ (ho7.below hH.out HG.out) ?_
              have FR7 := Lib.hid hr7
              have HH := Lib.hid (HF5.out _ (FR.out.only ho7 (by first | exact Or.inl GL.out | exact Or.inr (Nat.le_refl _))))
              clear hH hK K hr7 ho7 FB HG
              intro hH
              try simp only [Act.put]
              iterate 2
                refine tree_take (v := ?_) rfl (by rfl) ?_ ?_
                rotate_left
                · intro w2 hSw
                  have ra := Ra11.out.below hSw Ra11.out.lt
                  have x2 := ra.cell (j := 2) HcA.out
                  clear ra
                  clear hSw
                  go_simp
                  try with_reducible rfl
                try simp only [Act.put, List.setIfInBounds_toArray, List.set_cons_zero, List.set_cons_succ]
              refine tree_done ?_
              go_wp2_with fail
              go_meet
              exact ⟨_, E, rfl, rfl, rfl, FR7.out, EE.out, HH.out, hH.out⟩
            exact tree_stop
          exact tree_stop
        refine tree_move rfl (by rfl) (fun K hK => ?_) ?_
        · go_simp
          refine hK.out _ _ (hH.out.alloc hH.out.size _) ?_
          have FB := Lib.hid (row_at hH 49 [.string ⟨#[]⟩, .string ⟨#[]⟩, .int .i64 0, .string ⟨#[]⟩, .int .i64 0, .slice none 0 0, .slice none 0 0])
          have HG := Lib.hid hH.out.size
          try (replace FR := Lib.hid (FR.out.alloc (.cells #[.string ⟨#[]⟩, .string ⟨#[]⟩, .int .i64 0, .string ⟨#[]⟩, .int .i64 0, .slice none 0 0, .slice none 0 0] 49)))
          try (replace SL3 := Lib.hid ((SL3.out.alloc (Nat.le_refl _) (.cells #[.string ⟨#[]⟩, .string ⟨#[]⟩, .int .i64 0, .string ⟨#[]⟩, .int .i64 0, .slice none 0 0, .slice none 0 0] 49)).more (B' := (World.alloc w3 (.cells #[.string ⟨#[]⟩, .string ⟨#[]⟩, .int .i64 0, .string ⟨#[]⟩, .int .i64 0, .slice none 0 0, .slice none 0 0] 49)).heap.size) (by simp)))
          try (replace HG3 := Lib.hid (Nat.lt_of_lt_of_le HG3.out (show _ ≤ (World.alloc w3 (.cells #[.string ⟨#[]⟩, .string ⟨#[]⟩, .int .i64 0, .string ⟨#[]⟩, .int .i64 0, .slice none 0 0, .slice none 0 0] 49)).heap.size by simp)))
          clear hH hK K
          intro hH
          try simp only [Act.put, List.setIfInBounds_toArray, List.set_cons_zero, List.set_cons_succ]
          refine tree_node ?_
          refine tree_move rfl (by rfl) (fun K hK => ?_) ?_
          · go_simp
            try (have GL := Lib.hid FB.out.lt)
            (with_reducible refine (U2.out _ _ _ (below_step B11.out hH.out) HG3.out SL3.out).mono ?_)
            rintro e w5 ⟨E, rfl, hE5, hF5, hb5⟩
            refine hK.out _ _ (below_step hH.out hb5) ?_
            try (replace FB := Lib.hid (FB.out.below hb5 FB.out.lt))
            have EE := Lib.hid hE5
            have FR := fresh_start (hF5 _)
            have HF5 := Lib.hid hF5
            clear hH hK K hE5 hF5 hb5 SL3 HG3
            intro hH
            try simp only [Act.put, List.setIfInBounds_toArray, List.set_cons_zero, List.set_cons_succ]
            iterate 4
              refine tree_take (v := ?_) rfl (by rfl) ?_ ?_
              rotate_left
              · intro w2 hSw
                have ra := Ra11.out.below hSw Ra11.out.lt
                have x2 := ra.cell (j := 2) HcA.out
                clear ra
                clear hSw
                go_simp
                try with_reducible rfl
              try simp only [Act.put, List.setIfInBounds_toArray, List.set_cons_zero, List.set_cons_succ]
            refine tree_node ?_
            refine tree_move rfl (by rfl) (fun K hK => ?_) ?_
            · refine wp_store_row 49 _ _ rfl _ _ E _ rfl rfl FB.out (by rw [EE.out.1]; rfl) (GI.out _ EE.out) EE.out.2 ?_
              intro w7 hr7 ho7
              refine hK.out _ _ (ho7.below hH.out HG.out) ?_
              have FR7 := Lib.hid hr7
              have HH := Lib.hid (HF5.out _ (FR.out.only ho7 (by first | exact Or.inl GL.out | exact Or.inr (Nat.le_refl _))))
              clear hH hK K hr7 ho7 FB HG
              intro hH
              try simp only [Act.put]
              iterate 2
                refine tree_take (v := ?_) rfl (by rfl) ?_ ?_
                rotate_left
                · intro w2 hSw
                  have ra := Ra11.out.below hSw Ra11.out.lt
                  have x2 := ra.cell (j := 2) HcA.out
                  clear ra
                  clear hSw
                  go_simp
                  try with_reducible rfl
                try simp only [Act.put, List.setIfInBounds_toArray, List.set_cons_zero, List.set_cons_succ]
              refine tree_done ?_
              go_wp2_with fail
              go_meet
              exact ⟨_, E, rfl, rfl, rfl, FR7.out, EE.out, HH.out, hH.out⟩
            exact tree_stop
          exact tree_stop
        exact tree_stop
      refine tree_move rfl (by rfl) (fun K hK => ?_) ?_
      · go_simp
        refine hK.out _ _ (hH.out.alloc hH.out.size _) ?_
        have FB := Lib.hid (row_at hH 49 [.string ⟨#[]⟩, .string ⟨#[]⟩, .int .i64 0, .string ⟨#[]⟩, .int .i64 0, .slice none 0 0, .slice none 0 0])
        have HG := Lib.hid hH.out.size
        try (replace FR := Lib.hid (FR.out.alloc (.cells #[.string ⟨#[]⟩, .string ⟨#[]⟩, .int .i64 0, .string ⟨#[]⟩, .int .i64 0, .slice none 0 0, .slice none 0 0] 49)))
        try (replace SL3 := Lib.hid ((SL3.out.alloc (Nat.le_refl _) (.cells #[.string ⟨#[]⟩, .string ⟨#[]⟩, .int .i64 0, .string ⟨#[]⟩, .int .i64 0, .slice none 0 0, .slice none 0 0] 49)).more (B' := (World.alloc w3 (.cells #[.string ⟨#[]⟩, .string ⟨#[]⟩, .int .i64 0, .string ⟨#[]⟩, .int .i64 0, .slice none 0 0, .slice none 0 0] 49)).heap.size) (by simp)))
        try (replace HG3 := Lib.hid (Nat.lt_of_lt_of_le HG3.out (show _ ≤ (World.alloc w3 (.cells #[.string ⟨#[]⟩, .string ⟨#[]⟩, .int .i64 0, .string ⟨#[]⟩, .int .i64 0, .slice none 0 0, .slice none 0 0] 49)).heap.size by simp)))
        clear hH hK K
        intro hH
        try simp only [Act.put, List.setIfInBounds_toArray, List.set_cons_zero, List.set_cons_succ]
        refine tree_node ?_
        refine tree_move rfl (by rfl) (fun K hK => ?_) ?_
        · refine wp_conv 9 38 5 _ Sb lb rfl rfl Tryz.underlying9 Tryz.underlying38 Tryz.underlying5 Hlb.out (by have := HSbz.out; have := Hlb.out; omega) ?_
          intro g3 c3 w3 hs3 hg3 hb3
          refine hK.out _ _ (below_step hH.out hb3) ?_
          have SL3 := Lib.hid hs3
          have HG3 := Lib.hid hg3
          try (replace FB := Lib.hid (FB.out.below hb3 FB.out.lt))
          clear hH hK K hs3 hg3 hb3
          intro hH
          try simp only [Act.put, List.setIfInBounds_toArray, List.set_cons_zero, List.set_cons_succ]
          refine tree_node ?_
          refine tree_move rfl (by rfl) (fun K hK => ?_) ?_
          · go_simp
            try (have GL := Lib.hid FB.out.lt)
            (with_reducible refine (U2.out _ _ _ (below_step B11.out hH.out) HG3.out SL3.out).mono ?_)
            rintro e w5 ⟨E, rfl, hE5, hF5, hb5⟩
            refine hK.out _ _ (below_step hH.out hb5) ?_
            try (replace FB := Lib.hid (FB.out.below hb5 FB.out.lt))
            have EE := Lib.hid hE5
            have FR := fresh_start (hF5 _)
            have HF5 := Lib.hid hF5
            clear hH hK K hE5 hF5 hb5 SL3 HG3
            intro hH
            try simp only [Act.put, List.setIfInBounds_toArray, List.set_cons_zero, List.set_cons_succ]
            iterate 4
              refine tree_take (v := ?_) rfl (by rfl) ?_ ?_
              rotate_left
              · intro w2 hSw
                have ra := Ra11.out.below hSw Ra11.out.lt
                have x2 := ra.cell (j := 2) HcA.out
                clear ra
                clear hSw
                go_simp
                try with_reducible rfl
              try simp only [Act.put, List.setIfInBounds_toArray, List.set_cons_zero, List.set_cons_succ]
            refine tree_node ?_
            refine tree_move rfl (by rfl) (fun K hK => ?_) ?_
            · refine wp_store_row 49 _ _ rfl _ _ E _ rfl rfl FB.out (by rw [EE.out.1]; rfl) (GI.out _ EE.out) EE.out.2 ?_
              intro w7 hr7 ho7
              refine hK.out _ _ (ho7.below hH.out HG.out) ?_
              have FR7 := Lib.hid hr7
              have HH := Lib.hid (HF5.out _ (FR.out.only ho7 (by first | exact Or.inl GL.out | exact Or.inr (Nat.le_refl _))))
              clear hH hK K hr7 ho7 FB HG
              intro hH
              try simp only [Act.put]
              iterate 2
                refine tree_take (v := ?_) rfl (by rfl) ?_ ?_
                rotate_left
                · intro w2 hSw
                  have ra := Ra11.out.below hSw Ra11.out.lt
                  have x2 := ra.cell (j := 2) HcA.out
                  clear ra
                  clear hSw
                  go_simp
                  try with_reducible rfl
                try simp only [Act.put, List.setIfInBounds_toArray, List.set_cons_zero, List.set_cons_succ]
              refine tree_done ?_
              go_wp2_with fail
              go_meet
              exact ⟨_, E, rfl, rfl, rfl, FR7.out, EE.out, HH.out, hH.out⟩
            exact tree_stop
          exact tree_stop
        exact tree_stop
      exact tree_stop
    case rest =>
      obtain ⟨gy, E, rfl, rfl, rfl, hry, hEE, hHE, hby⟩ := hcut
      obtain ⟨w12, hw12⟩ : ∃ W : World, W = wc := ⟨_, rfl⟩
      subst hw12
      have B12 := Lib.hid (below_step B11.out hby)
      have Rb12 := Lib.hid (Rb11.out.below hby Rb11.out.lt)
      have RY := Lib.hid hry
      have EE := Lib.hid hEE
      have HE := Lib.hid hHE
      clear hry hEE hHE hby U2 Ra11 Rb11
      go_wp2_with (first
        | (refine wpList_load_g (by first | exact wanted_un rfl | exact wanted_yes rfl rfl rfl rfl | exact (wanted_is rfl rfl rfl rfl).trans (by simp; omega) | exact (wanted_is rfl rfl rfl rfl).trans (by simp)) 49 _ rfl gy 0 rfl E _ (rangeOf RY.out) Tryz.underlying49 rfl (GI.out _ EE.out) ?_)
        | (refine wpList_load_g (by first | exact wanted_un rfl | exact wanted_yes rfl rfl rfl rfl | exact (wanted_is rfl rfl rfl rfl).trans (by simp; omega) | exact (wanted_is rfl rfl rfl rfl).trans (by simp)) 49 _ rfl w1.heap.size 0 rfl D _ (rangeOf Rb12.out) Tryz.underlying49 rfl HDi.out ?_)
        | (go_at_call 27; (with_reducible refine (SM2.out _ _ B12.out HE.out).mono ?_); rintro e w13 ⟨rfl, hb13⟩; have B13 := Lib.hid (below_step B12.out hb13); clear hb13))
      go_ret
      exact ⟨rfl, B13.out⟩
end Go.Proofs.YteocdpkenlkmbaaGreatDoor

/- Layer 8's laws: MessageTwo, walked whole. Condition: the world's shape. -/
namespace Go.Proofs.YteocdpkenlkmbaaGreatDoor
open Go.RowKit IH
set_option maxRecDepth 100000
theorem mtwo_walk (w : World) (hsh : w.ShapedOpen Tryz.prog) (s : Sta) (A : Option Addr) (n c : Nat) (L : List Fld) (B : Option Addr) (m e : Nat) (X : List UInt8) (fA : SliceIn w w.heap.size 2 A n c (fldsV L)) (fB : SliceIn w w.heap.size 1 B m e (bytesV X)) (wS : StaW s)
    (t : Sta) (A' : Option Addr) (n' c' : Nat) (K : List Fld) (B' : Option Addr) (m' e' : Nat) (Y : List UInt8) (fA' : SliceIn w w.heap.size 2 A' n' c' (fldsV K)) (fB' : SliceIn w w.heap.size 1 B' m' e' (bytesV Y)) (wT : StaW t) (M : ByteArray) (_ : M.size ≤ maxLen) :
    Calls Tryz.prog 6 #[.agg (msgC s (.slice A n c) (.slice B m e)).toArray, .agg (msgC t (.slice A' n' c') (.slice B' m' e')).toArray, .string M] w fun e w' => e = .returned (.bool true) ∧ Below w.heap.size w w' := by
  have AW : ∀ W, Below w.heap.size w W → Calls Tryz.prog 21 #[] W fun e w' => e = .returned (.bool true) ∧ Below W.heap.size W w' := fun W hW => awake08_any W (shaped_below hsh hW)
  have SA := fun (W : World) (hW : Below w.heap.size w W) => small_any s L X A B n m c e M W ((fA.below hW).more hW.size) ((fB.below hW).more hW.size)
  have SB := fun (W : World) (hW : Below w.heap.size w W) => small_any t K Y A' B' n' m' c' e' M W ((fA'.below hW).more hW.size) ((fB'.below hW).more hW.size)
  have hC := msgC_right s A B n c m e
  have hD := msgC_right t A' B' n' c' m' e'
  have hLn := fld_count fA
  have hKn := fld_count fA'
  have hXm : X.length = m := by have := fB.1; rw [bytesV_length] at this; omega
  have hYm : Y.length = m' := by have := fB'.1; rw [bytesV_length] at this; omega
  cases hsa : smallM s L X M.size with
  | false => rw [hsa] at SA; exact mt_far1 _ _ hC hD s.status t.status rfl rfl M w AW SA
  | true =>
    rw [hsa] at SA
    cases hsb : smallM t K Y M.size with
    | false => rw [hsb] at SB; exact mt_far2 _ _ hC hD s.status t.status rfl rfl M w AW SA SB
    | true =>
      rw [hsb] at SB
      have KA := smallM_is hsa
      have KB := smallM_is hsb
      by_cases hst : (s.status == 0) = (t.status == 0)
      · have FA : FldB L n := by rw [← hLn]; exact KA.fldB
        have FB : FldB K n' := by rw [← hKn]; exact KB.fldB
        have hMm : M.size ≤ 1000000000 := by have := KA.mm; omega
        have RA := fun (W : World) (hW : Below w.heap.size w W) => rright8_any s (KA.staB wS).sta L X A B n m c e M W ((fA.below hW).more hW.size) ((fB.below hW).more hW.size) FA.n FA FA.f
        have RB := fun (W : World) (hW : Below w.heap.size w W) => rright8_any t (KB.staB wT).sta K Y A' B' n' m' c' e' M W ((fA'.below hW).more hW.size) ((fB'.below hW).more hW.size) FB.n FB FB.f
        cases hra : rightM ⟨s, L, X⟩ M.data.toList with
        | false => rw [hra] at RA; exact mt_far4 _ _ hC hD s.status t.status rfl rfl M w hst AW SA SB RA
        | true =>
          rw [hra] at RA
          cases hrb : rightM ⟨t, K, Y⟩ M.data.toList with
          | false => rw [hrb] at RB; exact mt_far5 _ _ hC hD s.status t.status rfl rfl M w hst AW SA SB RA RB
          | true =>
            rw [hrb] at RB
            have PA := fun (W : World) (hW : Below w.heap.size w W) => rprint8_any s (KA.staB wS) L X A B n m c e M W ((fA.below hW).more hW.size) ((fB.below hW).more hW.size) FA FA.z (by have := KA.bo; omega)
            have PB := fun (W : World) (hW : Below w.heap.size w W) => rprint8_any t (KB.staB wT) K Y A' B' n' m' c' e' M W ((fA'.below hW).more hW.size) ((fB'.below hW).more hW.size) FB FB.z (by have := KB.bo; omega)
            have za := KA.print M.data.toList
            have zb := KB.print M.data.toList
            have ea : (⟨(printM ⟨s, L, X⟩ M.data.toList).toArray⟩ : ByteArray).data.toList = printM ⟨s, L, X⟩ M.data.toList := by simp
            have eb : (⟨(printM ⟨t, K, Y⟩ M.data.toList).toArray⟩ : ByteArray).data.toList = printM ⟨t, K, Y⟩ M.data.toList := by simp
            obtain ⟨Sa, hSa⟩ : ∃ x : ByteArray, (⟨(printM ⟨s, L, X⟩ M.data.toList).toArray⟩ : ByteArray) = x := ⟨_, rfl⟩
            obtain ⟨Sb, hSb⟩ : ∃ x : ByteArray, (⟨(printM ⟨t, K, Y⟩ M.data.toList).toArray⟩ : ByteArray) = x := ⟨_, rfl⟩
            rw [hSa] at ea PA
            rw [hSb] at eb PB
            have la : Sa.size = (printM ⟨s, L, X⟩ M.data.toList).length := by rw [← data_len, ea]
            have lb : Sb.size = (printM ⟨t, K, Y⟩ M.data.toList).length := by rw [← data_len, eb]
            have lab : (Sa ++ Sb).size = Sa.size + Sb.size := by rw [← data_len, append_data, List.length_append, data_len, data_len]
            refine mt_good _ _ hC hD s.status t.status rfl rfl M Sa Sb (IsMsg (toldOf s L X)) (IsMsg (toldOf t K Y)) w hst (by omega) (by omega) AW SA SB RA RB PA PB ?_ ?_ (isMsg_below _) (isMsg_below _) (isMsg_right _) ?_ ?_
            · intro W g cap hW hg hin
              refine (parse_of s L X M (s.status == 0) rfl hra _ Sb.data.toList (by rw [append_data, ea]) _ Sa.size la.symm g 0 cap W (shaped_below hsh hW) hg hMm hin (by omega)).mono ?_
              rintro e w' ⟨E, rfl, -, hE, hb⟩
              exact ⟨E, rfl, hE _ (Fresh.refl _ _), hb⟩
            · intro W g cap hW hg hin
              exact parse_of t K Y M (s.status == 0) hst.symm hrb _ [] (by rw [List.append_nil, eb]) _ Sb.size lb.symm g 0 cap W (shaped_below hsh hW) hg hMm hin (by omega)
            · intro W E hW hE
              exact same_of s L X (by have := KA.fn; omega) E _ W hE (isMsg_of fA fB hW)
            · intro W E hW hE
              exact same_of t K Y (by have := KB.fn; omega) E _ W hE (isMsg_of fA' fB' hW)
      · exact mt_far3 _ _ hC hD s.status t.status rfl rfl M w hst AW SA SB
end Go.Proofs.YteocdpkenlkmbaaGreatDoor
