/- Layer 6: start.Print, by the code. Condition: the start's texts are at most 10^9 octets long. -/
import Derived.Test.YteocdpkenlkmbaaGreatDoorPr
import Derived.Test.YteocdpkenlkmbaaGreatDoorOz
import Derived.Test.YteocdpkenlkmbaaGreatDoorPb
import Derived.Test.YteocdpkenlkmbaaGreatDoorShelf
namespace Go.Proofs.YteocdpkenlkmbaaGreatDoor
open Go.RowKit IH
set_option maxRecDepth 100000
theorem join3 (a b c : List UInt8) : Lib.join [a, b, c] [32] = a ++ 32 :: (b ++ 32 :: c) := by
  simp [Lib.join, List.intercalate, List.intersperse]
theorem row3 {w : World} {g : Nat} {e : TypeId} {A B C : ByteArray} (h : RowAt w g e [.string A, .string B, .string C]) : ∀ (j : Nat) (x : ByteArray), [A, B, C][j]? = some x → w.cell? ⟨g, 0 + j, none⟩ = some (.string x) := by
  intro j x hx
  rw [Nat.zero_add]
  match j, hx with
  | 0, hx => (simp only [List.getElem?_cons_zero, Option.some.injEq] at hx; subst hx; exact h.cell rfl)
  | 1, hx => (simp only [List.getElem?_cons_succ, List.getElem?_cons_zero, Option.some.injEq] at hx; subst hx; exact h.cell rfl)
  | 2, hx => (simp only [List.getElem?_cons_succ, List.getElem?_cons_zero, Option.some.injEq] at hx; subst hx; exact h.cell rfl)
  | j + 3, hx => simp at hx
set_option maxHeartbeats 16000000 in
theorem sprint_any (s : Sta) (hs : StaB s) (hl0 : -9223372036854775808 ≤ s.status) (hl1 : -9223372036854775808 ≤ s.minor) (hzP : (printS s).length ≤ 1000000) (w : World) :
    Calls Tryz.prog 87 #[.agg (staC s).toArray] w fun e w' =>
      ((right6 s = false ∧ e = .returned (.tuple #[.slice none 0 0, .int .i64 10])) ∨
       (right6 s = true ∧ ∃ g n c, e = .returned (.tuple #[.slice (some ⟨g, 0, none⟩) n c, .int .i64 0]) ∧ g < w'.heap.size ∧ n = (printS s).length ∧ SliceIn w' w'.heap.size 1 (some ⟨g, 0, none⟩) n c (bytesV (printS s)))) ∧ Below w.heap.size w w' := by
  have P1 := fun w => Print_any s.minor 10 hl1 hs.mi w
  have P2 := fun w => Print_any s.status 10 hl0 hs.s1 w
  have RG := fun w => right6_any s hs.sta w
  have l1 := pN_len s.minor
  have l2 := pN_len s.status
  have lP := hzP
  obtain ⟨A, hA⟩ : ∃ S : ByteArray, (⟨(printN s.minor 10).toArray⟩ : ByteArray) = S := ⟨_, rfl⟩
  obtain ⟨B, hB⟩ : ∃ S : ByteArray, (⟨(printN s.status 10).toArray⟩ : ByteArray) = S := ⟨_, rfl⟩
  rw [hA] at P1
  rw [hB] at P2
  have zA : A.size ≤ 64 := by rw [← hA, size_mk]; exact l1
  have zB : B.size ≤ 64 := by rw [← hB, size_mk]; exact l2
  obtain ⟨M, hM⟩ : ∃ M : ByteArray, (⟨s.method.toArray⟩ : ByteArray) = M := ⟨_, rfl⟩
  obtain ⟨T, hT⟩ : ∃ M : ByteArray, (⟨s.target.toArray⟩ : ByteArray) = M := ⟨_, rfl⟩
  obtain ⟨R, hR⟩ : ∃ M : ByteArray, (⟨s.reason.toArray⟩ : ByteArray) = M := ⟨_, rfl⟩
  have zM : M.size ≤ 1000000000 := by rw [← hM, size_mk]; exact hs.m
  have zT : T.size ≤ 1000000000 := by rw [← hT, size_mk]; exact hs.t
  have zR : R.size ≤ 1000000000 := by rw [← hR, size_mk]; exact hs.r
  have dM : M.data.toList = s.method := by rw [← hM]
  have dT : T.data.toList = s.target := by rw [← hT]
  have dR : R.data.toList = s.reason := by rw [← hR]
  have dA : A.data.toList = printN s.minor 10 := by rw [← hA]
  have dB : B.data.toList = printN s.status 10 := by rw [← hB]
  obtain ⟨OUT, hOUT⟩ : ∃ O, printS s = O := ⟨_, rfl⟩
  rw [hOUT] at lP ⊢
  have HO := Lib.hid hOUT
  have HL := Lib.hid lP
  obtain ⟨ri, hri⟩ : ∃ x, right6 s = x := ⟨_, rfl⟩
  rw [hri] at RG ⊢
  unfold staC at RG ⊢
  rw [hM, hT, hR] at RG ⊢
  have DM := Lib.hid dM
  have DT := Lib.hid dT
  have DR := Lib.hid dR
  have DA := Lib.hid dA
  have DB := Lib.hid dB
  obtain ⟨st, hst⟩ : ∃ x, s.status = x := ⟨_, rfl⟩
  obtain ⟨mi, hmi⟩ : ∃ x, s.minor = x := ⟨_, rfl⟩
  have HST := Lib.hid hst
  rw [hst] at P2
  rw [hmi] at P1
  rw [hst, hmi] at RG ⊢
  have NW := Lib.hid (RowAt.new w 46 [.string M, .string T, .int .i64 st, .string R, .int .i64 mi])
  have NB := Lib.hid (below_al w (.cells #[.string M, .string T, .int .i64 st, .string R, .int .i64 mi] 46))
  replace P1 := Lib.hid P1
  replace P2 := Lib.hid P2
  replace RG := Lib.hid RG
  have d0 := NW.out.cell (j := 0) rfl
  have d1 := NW.out.cell (j := 1) rfl
  have d2 := NW.out.cell (j := 2) rfl
  have d3 := NW.out.cell (j := 3) rfl
  have d4 := NW.out.cell (j := 4) rfl
  clear hA hB hM hT hR dM dT dR dA dB hOUT lP hst hmi l1 l2 hs hri hl0 hl1 hzP
  cases ri with
  | false =>
    go_enter Tryz.func87, Tryz.ntmps87
    go_wp2_with (go_at_call 91; (with_reducible refine (RG.out _).mono ?_); rintro x2 w2 ⟨rfl, hb2⟩; have B2 := Lib.hid (below_step NB.out hb2); clear hb2)
    go_ret2
    exact ⟨.inl ⟨by first | rfl | trivial, rfl⟩, B2.out⟩
  | true =>
    go_enter Tryz.func87, Tryz.ntmps87
    go_upto_region 3 with (go_at_call 91; (with_reducible refine (RG.out _).mono ?_); rintro x2 w2 ⟨rfl, hb2⟩; have B2 := Lib.hid (below_step NB.out hb2); have R2 := Lib.hid (NW.out.below hb2 NW.out.lt); clear hb2)
    clear d0 d1 d2 d3 d4
    have c4 := R2.out.cell (j := 4) rfl
    go_upto_region 4 with (go_at_call 121; (with_reducible refine (P1.out _).mono ?_); rintro x3 w3 ⟨rfl, nq, hw3⟩; have B3 : Hid (Below w.heap.size w w3) := Lib.hid (by rw [hw3]; exact below_drewN B2.out nq); have R3 : Hid (RowAt w3 w.heap.size 46 [.string M, .string T, .int .i64 st, .string R, .int .i64 mi]) := Lib.hid (by rw [hw3]; exact R2.out.drewN nq); clear hw3 c4)
    obtain ⟨V, hV⟩ : ∃ V : ByteArray, (⟨#[72, 84, 84, 80, 47, 49, 46]⟩ : ByteArray) ++ A = V := ⟨_, rfl⟩
    have zV : V.size ≤ 71 := by rw [← hV, ← data_len, append_data, List.length_append, data_len A]; simp; omega
    have DV : Hid (V.data.toList = http1 ++ printN s.minor 10) := Lib.hid (by rw [← hV, append_data, DA.out]; rfl)
    rw [hV]
    clear hV zA
    go_cut [5] from 13 to 19 (fun s5 wx => ∃ g, s5 = .slice (some ⟨g, 0, none⟩) 3 3 ∧ RowAt wx g 9 [.string V, .string B, .string R] ∧ Below w3.heap.size w3 wx)
    case first =>
      refine wp_region_plan (fun W => Below w3.heap.size w3 W) [(0, true), (1, true), (2, true), (4, true), (5, true), (3, false), (6, false), (7, true)] (by kernel_rfl) (by kernel_rfl) rfl (by kernel_rfl) (below_drewN (Below.refl _ _) 1) ?_
      intro w1 hH
      iterate 5
        refine plan_take (v := ?_) rfl (by rfl) ?_ ?_
        rotate_left
        · intro w2 hSw
          have ra := R3.out.below hSw R3.out.lt
          have x2 := ra.cell (j := 2) rfl
          have x3 := ra.cell (j := 3) rfl
          clear ra
          clear hSw
          go_simp
          try with_reducible rfl
        try simp only [Act.put, List.setIfInBounds_toArray, List.set_cons_zero, List.set_cons_succ]
      refine plan_move rfl (by rfl) (fun K hK => ?_)
      go_simp
      (with_reducible refine (P2.out _).mono ?_)
      rintro e w5 ⟨rfl, nq, rfl⟩
      refine hK.out _ _ (below_drewN hH.out nq) ?_
      clear hH hK K
      intro hH
      try simp only [Act.put, List.setIfInBounds_toArray, List.set_cons_zero, List.set_cons_succ]
      refine plan_move rfl (by rfl) (fun K hK => ?_)
      go_simp
      refine hK.out _ _ (hH.out.alloc hH.out.size _) ?_
      have FB := Lib.hid (row_at hH 9 [.string V, .string B, .string R])
      clear hH hK K
      intro hH
      try simp only [Act.put, List.setIfInBounds_toArray, List.set_cons_zero, List.set_cons_succ]
      iterate 1
        refine plan_take (v := ?_) rfl (by rfl) ?_ ?_
        rotate_left
        · intro w2 hSw
          have ra := R3.out.below hSw R3.out.lt
          have x2 := ra.cell (j := 2) rfl
          have x3 := ra.cell (j := 3) rfl
          clear ra
          clear hSw
          go_simp
          try with_reducible rfl
        try simp only [Act.put, List.setIfInBounds_toArray, List.set_cons_zero, List.set_cons_succ]
      refine plan_done ?_
      go_wp2_with fail
      go_meet
      exact ⟨_, rfl, FB.out, hH.out⟩
    case rest =>
      obtain ⟨w4, hw4⟩ : ∃ W : World, W = wc := ⟨_, rfl⟩
      subst hw4
      obtain ⟨g5, rfl, hr5, hb4⟩ := hcut
      have B4 := Lib.hid (below_step B3.out hb4)
      have R4 := Lib.hid (R3.out.below hb4 R3.out.lt)
      have c0 := R4.out.cell (j := 0) rfl
      have c1 := R4.out.cell (j := 1) rfl
      have c2 := R4.out.cell (j := 2) rfl
      have RV := Lib.hid hr5
      clear hr5 hb4
      by_cases h0 : st = 0
      · have e0 : (st == 0) = true := by rw [beq_iff_eq]; exact h0
        have HP : Hid (OUT = s.method ++ 32 :: (s.target ++ 32 :: (http1 ++ printN s.minor 10 ++ [13, 10]))) := Lib.hid (by rw [← HO.out]; unfold printS; rw [if_pos (by rw [HST.out]; exact h0)])
        clear h0
        have NV := Lib.hid (RowAt.new w4 9 [.string M, .string T, .string V])
        have hz3 : (Lib.join (List.map (fun x : ByteArray => x.data.toList) [M, T, V]) (⟨#[32]⟩ : ByteArray).data.toList) = M.data.toList ++ 32 :: (T.data.toList ++ 32 :: V.data.toList) := join3 _ _ _
        have hzl : (Lib.join (List.map (fun x : ByteArray => x.data.toList) [M, T, V]) (⟨#[32]⟩ : ByteArray).data.toList).length ≤ 3000000000 := by rw [hz3]; simp only [List.length_append, List.length_cons, data_len]; omega
        have JN := Tryz.strings_Join w4.heap.size 0 3 [M, T, V] ⟨#[32]⟩ (w4.alloc (.cells #[.string M, .string T, .string V] 9)) (row3 NV.out) NV.out.lt (by show 3 ≤ _; decide) (by show 3 ≤ 3; decide) (by omega)
        rw [show ([M, T, V] : List ByteArray).length = 3 from rfl] at JN
        obtain ⟨J, hJ⟩ : ∃ J : ByteArray, (⟨(Lib.join (List.map (fun x : ByteArray => x.data.toList) [M, T, V]) (⟨#[32]⟩ : ByteArray).data.toList).toArray⟩ : ByteArray) = J := ⟨_, rfl⟩
        have dJ : J.data.toList = M.data.toList ++ 32 :: (T.data.toList ++ 32 :: V.data.toList) := by rw [← hJ, ← hz3]
        have zJ : J.size ≤ 3000000000 := by rw [← data_len, dJ, ← hz3]; exact hzl
        rw [hJ] at JN
        have dO : (J ++ (⟨#[13, 10]⟩ : ByteArray)).data.toList = OUT := by
          rw [append_data, dJ, HP.out]
          rw [DM.out, DT.out, DV.out]
          simp [http1]
        have HJN := Lib.hid JN
        have HDO := Lib.hid dO
        have tokA : Hid True := Lib.hid trivial
        clear hz3 hzl JN hJ dJ dO
        go_wp2_with (first
          | (have _t := tokA; go_at_call 122; (with_reducible refine HJN.out.mono ?_); rintro e w5 ⟨rfl, hb5⟩; have B5 := Lib.hid (below_step (B4.out.alloc B4.out.size (.cells #[.string M, .string T, .string V] 9)) hb5); clear hb5 tokA _t)
          | (refine wpList_conv rfl 9 38 5 _ (J ++ (⟨#[13, 10]⟩ : ByteArray)) OUT.length rfl rfl Tryz.underlying9 Tryz.underlying38 Tryz.underlying5 (by rw [← data_len, HDO.out]) (by have := HL.out; omega) ?_; intro g6 c6 w6 hs6 hg6 hb6; rw [HDO.out] at hs6; have B6 := Lib.hid (below_step B5.out hb6); have S6 := Lib.hid hs6; have G6 := Lib.hid hg6; clear hs6 hg6 hb6))
        go_ret2
        exact ⟨.inr ⟨by first | rfl | trivial, _, _, _, rfl, G6.out, rfl, S6.out⟩, B6.out⟩
      · have e0 : (st == 0) = false := by rw [beq_eq_false_iff_ne]; exact h0
        have HP : Hid (OUT = http1 ++ printN s.minor 10 ++ 32 :: (printN s.status 10 ++ 32 :: (s.reason ++ [13, 10]))) := Lib.hid (by rw [← HO.out]; unfold printS; rw [if_neg (by rw [HST.out]; exact h0)])
        have NV := RV
        clear h0
        have hz3 : (Lib.join (List.map (fun x : ByteArray => x.data.toList) [V, B, R]) (⟨#[32]⟩ : ByteArray).data.toList) = V.data.toList ++ 32 :: (B.data.toList ++ 32 :: R.data.toList) := join3 _ _ _
        have hzl : (Lib.join (List.map (fun x : ByteArray => x.data.toList) [V, B, R]) (⟨#[32]⟩ : ByteArray).data.toList).length ≤ 3000000000 := by rw [hz3]; simp only [List.length_append, List.length_cons, data_len]; omega
        have JN := Tryz.strings_Join g5 0 3 [V, B, R] ⟨#[32]⟩ w4 (row3 NV.out) NV.out.lt (by show 3 ≤ _; decide) (by show 3 ≤ 3; decide) (by omega)
        rw [show ([V, B, R] : List ByteArray).length = 3 from rfl] at JN
        obtain ⟨J, hJ⟩ : ∃ J : ByteArray, (⟨(Lib.join (List.map (fun x : ByteArray => x.data.toList) [V, B, R]) (⟨#[32]⟩ : ByteArray).data.toList).toArray⟩ : ByteArray) = J := ⟨_, rfl⟩
        have dJ : J.data.toList = V.data.toList ++ 32 :: (B.data.toList ++ 32 :: R.data.toList) := by rw [← hJ, ← hz3]
        have zJ : J.size ≤ 3000000000 := by rw [← data_len, dJ, ← hz3]; exact hzl
        rw [hJ] at JN
        have dO : (J ++ (⟨#[13, 10]⟩ : ByteArray)).data.toList = OUT := by
          rw [append_data, dJ, HP.out]
          rw [DV.out, DB.out, DR.out]
          simp [http1]
        have HJN := Lib.hid JN
        have HDO := Lib.hid dO
        have tokA : Hid True := Lib.hid trivial
        clear hz3 hzl JN hJ dJ dO
        go_wp2_with (first
          | (have _t := tokA; go_at_call 122; (with_reducible refine HJN.out.mono ?_); rintro e w5 ⟨rfl, hb5⟩; have B5 := Lib.hid (below_step B4.out hb5); clear hb5 tokA _t)
          | (refine wpList_conv rfl 9 38 5 _ (J ++ (⟨#[13, 10]⟩ : ByteArray)) OUT.length rfl rfl Tryz.underlying9 Tryz.underlying38 Tryz.underlying5 (by rw [← data_len, HDO.out]) (by have := HL.out; omega) ?_; intro g6 c6 w6 hs6 hg6 hb6; rw [HDO.out] at hs6; have B6 := Lib.hid (below_step B5.out hb6); have S6 := Lib.hid hs6; have G6 := Lib.hid hg6; clear hs6 hg6 hb6))
        go_ret2
        exact ⟨.inr ⟨by first | rfl | trivial, _, _, _, rfl, G6.out, rfl, S6.out⟩, B6.out⟩
end Go.Proofs.YteocdpkenlkmbaaGreatDoor
