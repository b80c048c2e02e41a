/- Layer 2's laws: DateApart, walked: early moments. Condition: the world's shape. -/
import Derived.Test.YtpmidmdodjgeeaaDoorLaw02d
namespace Go.Proofs.YtpmidmdodjgeeaaDoor
open Go.RowKit IH
set_option maxRecDepth 100000
set_option maxHeartbeats 16000000 in
theorem apart_early (w : World) (hsh : w.ShapedOpen Tryd.prog) (n : Int) (n0 : 0 ≤ n) (n1 : n ≤ 253402300799) (f : Int) (hf : (Lit.int .i64 f).wf = true) (a b : Int) (ha : (Lit.int .i64 a).wf = true) (hb : (Lit.int .i64 b).wf = true) (y m d : Int) (hM : Moment n y m d) (hy : y ≤ 2069) :
    Calls Tryd.prog 12 #[.int .i64 n, .int .i64 f, .agg #[.int .i64 a, .int .i64 b]] w fun e w' => e = .returned (.bool true) ∧ Below w.heap.size w w' := by
  have AW := Lib.hid (fun w hsh => awake02_any w hsh)
  have Hsh := Lib.hid hsh
  clear hsh
  obtain ⟨f0, f1⟩ := wf_bd hf
  obtain ⟨a0, a1⟩ := wf_bd ha
  obtain ⟨b0, b1⟩ := wf_bd hb
  have h0 : ¬ n < 0 := by omega
  have h1 : ¬ 253402300799 < n := by omega
  have HM := Lib.hid hM
  have PM := Print_at hM
  have hlen := form_len hM
  have PA := fun (s : ByteArray) (hs : s.size ≤ 1000000000) w hsh => Parse_any s hs w hsh
  have hj : Int.tmod f 3 = 0 ∨ Int.tmod f 3 = 1 ∨ Int.tmod f 3 = 2 ∨ Int.tmod f 3 = -1 ∨ Int.tmod f 3 = -2 := by
    have h1 : -3 < Int.tmod f 3 := Int.lt_tmod_of_pos f (by omega)
    have h2 : Int.tmod f 3 < 3 := Int.tmod_lt_of_pos f (by omega)
    omega
  obtain ⟨F0, hF0⟩ : ∃ F : ByteArray, F = ⟨(formOf 0 n y m d).toArray⟩ := ⟨_, rfl⟩
  obtain ⟨F1, hF1⟩ : ∃ F : ByteArray, F = ⟨(formOf 1 n y m d).toArray⟩ := ⟨_, rfl⟩
  obtain ⟨F2, hF2⟩ : ∃ F : ByteArray, F = ⟨(formOf 2 n y m d).toArray⟩ := ⟨_, rfl⟩
  have z0 : F0.size = 29 := by rw [hF0, size_mk, hlen.1]
  have z1 : 30 ≤ F1.size ∧ F1.size ≤ 33 := by rw [hF1, size_mk]; omega
  have z2 : F2.size = 24 := by rw [hF2, size_mk]; omega
  have Z0 := Lib.hid z0; have Z1 := Lib.hid z1; have Z2 := Lib.hid z2
  rw [← hF0] at PM
  have hc0 : 0 ≤ (Int.tmod b 256 + 256) % 256 := by omega
  have hc1 : (Int.tmod b 256 + 256) % 256 < 256 := by omega
  have b2 : -256 < Int.tmod b 256 := Int.lt_tmod_of_pos b (by omega)
  have b3 : Int.tmod b 256 < 256 := Int.tmod_lt_of_pos b (by omega)
  have f2 : -3 < Int.tmod f 3 := Int.lt_tmod_of_pos f (by omega)
  have f3 : Int.tmod f 3 < 3 := Int.tmod_lt_of_pos f (by omega)
  obtain ⟨c, hc⟩ : ∃ c : UInt8, (Int.tmod b 256 + 256) % 256 = (c.toNat : Int) := ⟨UInt8.ofNat ((Int.tmod b 256 + 256) % 256).toNat, by rw [UInt8.toNat_ofNat']; omega⟩
  have hj2 : (Int.tmod f 3 + 3) % 3 = 0 ∨ (Int.tmod f 3 + 3) % 3 = 1 ∨ (Int.tmod f 3 + 3) % 3 = 2 := by omega
  have FO := Forms_at hM hy
  rw [← hF0, ← hF1, ← hF2] at FO
  replace FO := Lib.hid FO
  replace PA := Lib.hid PA
  have s0 : F0.data.toList = formOf 0 n y m d := by rw [hF0]
  have s1 : F1.data.toList = formOf 1 n y m d := by rw [hF1]
  have s2 : F2.data.toList = formOf 2 n y m d := by rw [hF2]
  have HS0 := Lib.hid (⟨0, .inl rfl, s0⟩ : ∃ K : Int, (K = 0 ∨ (K = 1 ∧ y ≤ 2069) ∨ K = 2) ∧ F0.data.toList = formOf K n y m d)
  have HS1 := Lib.hid (⟨1, .inr (.inl ⟨rfl, hy⟩), s1⟩ : ∃ K : Int, (K = 0 ∨ (K = 1 ∧ y ≤ 2069) ∨ K = 2) ∧ F1.data.toList = formOf K n y m d)
  have HS2 := Lib.hid (⟨2, .inr (.inr rfl), s2⟩ : ∃ K : Int, (K = 0 ∨ (K = 1 ∧ y ≤ 2069) ∨ K = 2) ∧ F2.data.toList = formOf K n y m d)
  clear hM hF0 hF1 hF2 s0 s1 s2 z0 z1 z2 hlen hj hc0 hc1 PM
  rcases hj2 with hjv | hjv | hjv
  · have HSRC := HS0
    have hz1 : 24 ≤ F0.size := by have := Z0.out; have := Z1.out; have := Z2.out; omega
    have hz2 : F0.size ≤ 33 := by have := Z0.out; have := Z1.out; have := Z2.out; omega
    clear Z0 Z1 Z2 HS0 HS1 HS2
    have hsz : ((F0.size : Int) == 0) = false := by rw [beq_eq_false_iff_ne]; omega
    have hsz2 : ¬ ((F0.size : Int) = 0) := by omega
    have ta : -(F0.size : Int) < Int.tmod a F0.size := Int.lt_tmod_of_pos a (by omega)
    have tb : Int.tmod a F0.size < (F0.size : Int) := Int.tmod_lt_of_pos a (by omega)
    obtain ⟨k, hk⟩ : ∃ k : Nat, (Int.tmod a F0.size + F0.size) % (F0.size : Int) = (k : Int) := ⟨((Int.tmod a F0.size + F0.size) % (F0.size : Int)).toNat, by have := Int.emod_nonneg (Int.tmod a F0.size + F0.size) hsz2; omega⟩
    have hkl : k < F0.size := by have := Int.emod_lt_of_pos (Int.tmod a F0.size + F0.size) (show (0 : Int) < F0.size by omega); omega
    obtain ⟨K, hK, hsrc⟩ := HSRC.out
    obtain ⟨tu1, tu2⟩ := turned HM.out hK F0.data.toList hsrc k (by rw [data_len]; exact hkl) c
    obtain ⟨x, hx⟩ : ∃ x, F0[k] = x := ⟨_, rfl⟩
    have hget : F0.data.toList[k]? = some x := by rw [← hx]; exact get_data F0 k hkl
    rw [hget] at tu1 tu2
    obtain ⟨T, hT⟩ : ∃ T : ByteArray, F0.extract 0 k ++ ⟨#[c]⟩ ++ F0.extract (k + 1) F0.size = T := ⟨_, rfl⟩
    have hTd : T.data.toList = F0.data.toList.take k ++ [c] ++ F0.data.toList.drop (k + 1) := by rw [← hT, append_data, append_data, take_data _ _ (by omega), drop_data]
    have hTs : T.size ≤ 1000000000 := by rw [← hT]; simp [mk_size]; omega
    have PT := fun w hsh => PA.out T hTs w hsh
    rw [hTd] at PT
    have hout : (((c.toNat : Int) == (x.toNat : Int)) = true ∧ parseL (F0.data.toList.take k ++ [c] ++ F0.data.toList.drop (k + 1)) = (n, 0)) ∨ (((c.toNat : Int) == (x.toNat : Int)) = false ∧ parseL (F0.data.toList.take k ++ [c] ++ F0.data.toList.drop (k + 1)) = (0, 10)) ∨ (((c.toNat : Int) == (x.toNat : Int)) = false ∧ ∃ p : Int, (p == n) = false ∧ parseL (F0.data.toList.take k ++ [c] ++ F0.data.toList.drop (k + 1)) = (p, 0)) := by
      by_cases hcx : x = c
      · exact .inl ⟨by rw [hcx]; simp, tu1 (by rw [hcx])⟩
      · have hb1 : ((c.toNat : Int) == (x.toNat : Int)) = false := by
          rw [beq_eq_false_iff_ne]
          intro h
          exact hcx (UInt8.toNat_inj.1 (by omega))
        rcases tu2 (by intro h; exact hcx (Option.some.inj h)) with h | ⟨h, h2⟩
        · exact .inr (.inl ⟨hb1, h⟩)
        · exact .inr (.inr ⟨hb1, _, by rw [beq_eq_false_iff_ne]; exact h2, Prod.ext rfl h⟩)
    have HT := Lib.hid hT
    have HX := Lib.hid hx
    have hcb : (c.toNat : Int) ≤ 255 := by have := c.toNat_lt; omega
    clear hsrc tu1 tu2 hget hTd hT hx hTs hK
    rcases hout with ⟨e1, e3⟩ | ⟨e1, e3⟩ | ⟨e1, p, e2, e3⟩
    all_goals
      rw [e3] at PT
      replace PT := Lib.hid PT
      clear e3
      have e1b : ((c.toNat : Int) != (x.toNat : Int)) = !((c.toNat : Int) == (x.toNat : Int)) := rfl
      rw [e1] at e1b
      simp only [Bool.not_true, Bool.not_false] at e1b
    all_goals
      go_enter Tryd.func12, Tryd.ntmps12
      go_wp2_with fail
      refine (AW.out _ (shaped_below Hsh.out ((Below.refl _ _).alloc (Nat.le_refl _) _))).mono ?_
      rintro e w2 ⟨rfl, hb2⟩
      have B2 := Lib.hid (((Below.refl w.heap.size w).alloc (Nat.le_refl _) _).trans (hb2.mono (by simp)))
      have RB := Lib.hid ((RowAt.new w 68 [.int .i64 a, .int .i64 b]).below hb2 (by simp)); clear hb2
      have rb0 := RB.out.lt
      go_upto_region 10 with (first
        | (go_at_call 33; (with_reducible refine (refLast_any _).mono ?_); rintro e w5 ⟨rfl, rfl⟩)
        | (go_at_call 36; (with_reducible refine (FO.out _).mono ?_); rintro e w3 ⟨rfl, hb3⟩; have hb3' := below_step B2.out hb3; have B5 := Lib.hid (hb3'.alloc hb3'.size (.cells #[.string F0, .string F1, .string F2] 64)); have R5 := Lib.hid ((RB.out.below hb3 rb0).alloc (.cells #[.string F0, .string F1, .string F2] 64)); obtain ⟨c0, c1, c2⟩ := str3_cells (RowAt.new w3 64 (str3 F0 F1 F2)); clear hb3 hb3'))
      have q0 := R5.out.cell (j := 0) rfl
      have q1 := R5.out.cell (j := 1) rfl
      go_upto_region 12 with fail
      have hw1 : IntKind.i64.wrap ((k : Int) + 1) = (k : Int) + 1 := IntWalk.i64_in _ ⟨by omega, by omega⟩
      have hk0 : (0 : Int) ≤ (k : Int) := by omega
      have hk1 : (k : Int) ≤ (F0.size : Int) := by omega
      have hk2 : (k : Int) + 1 ≤ (F0.size : Int) := by omega
      have hk3 : (0 : Int) ≤ (k : Int) + 1 := by omega
      refine wp_region_plan (fun w' => Below w.heap.size w w') [(0, true), (1, true), (2, true), (3, true), (7, true), (8, true), (9, true), (10, true), (4, false), (5, false), (6, true), (11, true), (12, true)] (by kernel_rfl) (by kernel_rfl) rfl (by kernel_rfl) (below_drewN B5.out 1) ?_
      intro w1 hH
      iterate 8
        refine plan_take (v := ?_) rfl (by rfl) ?_ ?_
        rotate_left
        · intro w2 hSw
          clear hSw
          go_simp
          try with_reducible rfl
        try simp only [Act.put, List.setIfInBounds_toArray, List.set_cons_zero, List.set_cons_succ]
      refine plan_move rfl (by rfl) (fun K hK => ?_)
      go_simp
      refine hK.out _ _ (hH.out.alloc hH.out.size _) ?_
      have hcs := run_one_c w1 c
      clear hH hK K
      intro hH
      try simp only [Act.put, List.setIfInBounds_toArray, List.set_cons_zero, List.set_cons_succ]
      refine plan_move rfl (by rfl) (fun K hK => ?_)
      go_simp
      refine hK.out _ _ (hH.out) ?_
      clear hH hK K hcs
      intro hH
      try simp only [Act.put, List.setIfInBounds_toArray, List.set_cons_zero, List.set_cons_succ]
      iterate 2
        refine plan_add rfl (by rfl) _ _ _ _ rfl _ _ (by rfl) (by rfl) (by simp [mk_size]; omega) ?_
        try simp only [Act.put, List.setIfInBounds_toArray, List.set_cons_zero, List.set_cons_succ]
      iterate 1
        refine plan_take (v := ?_) rfl (by rfl) ?_ ?_
        rotate_left
        · intro w2 hSw
          clear hSw
          go_simp
          try with_reducible rfl
        try simp only [Act.put, List.setIfInBounds_toArray, List.set_cons_zero, List.set_cons_succ]
      refine plan_done ?_
      have B9 := hH
      clear hH
      rw [HT.out]
      have hx := HX.out
      go_wp2_with (go_at_call 31; refine (PT.out _ (shaped_below Hsh.out B9.out)).mono ?_; rintro e w7 ⟨rfl, hb7⟩; have B10 := Lib.hid (below_step B9.out hb7); clear hb7)
      go_ret
      first
        | exact ⟨rfl, B10.out⟩
        | (have e2b : (p != n) = true := by rw [bne, e2]; rfl
           exact ⟨ret_bool (by simp [e2b]), B10.out⟩)
  · have HSRC := HS1
    have hz1 : 24 ≤ F1.size := by have := Z0.out; have := Z1.out; have := Z2.out; omega
    have hz2 : F1.size ≤ 33 := by have := Z0.out; have := Z1.out; have := Z2.out; omega
    clear Z0 Z1 Z2 HS0 HS1 HS2
    have hsz : ((F1.size : Int) == 0) = false := by rw [beq_eq_false_iff_ne]; omega
    have hsz2 : ¬ ((F1.size : Int) = 0) := by omega
    have ta : -(F1.size : Int) < Int.tmod a F1.size := Int.lt_tmod_of_pos a (by omega)
    have tb : Int.tmod a F1.size < (F1.size : Int) := Int.tmod_lt_of_pos a (by omega)
    obtain ⟨k, hk⟩ : ∃ k : Nat, (Int.tmod a F1.size + F1.size) % (F1.size : Int) = (k : Int) := ⟨((Int.tmod a F1.size + F1.size) % (F1.size : Int)).toNat, by have := Int.emod_nonneg (Int.tmod a F1.size + F1.size) hsz2; omega⟩
    have hkl : k < F1.size := by have := Int.emod_lt_of_pos (Int.tmod a F1.size + F1.size) (show (0 : Int) < F1.size by omega); omega
    obtain ⟨K, hK, hsrc⟩ := HSRC.out
    obtain ⟨tu1, tu2⟩ := turned HM.out hK F1.data.toList hsrc k (by rw [data_len]; exact hkl) c
    obtain ⟨x, hx⟩ : ∃ x, F1[k] = x := ⟨_, rfl⟩
    have hget : F1.data.toList[k]? = some x := by rw [← hx]; exact get_data F1 k hkl
    rw [hget] at tu1 tu2
    obtain ⟨T, hT⟩ : ∃ T : ByteArray, F1.extract 0 k ++ ⟨#[c]⟩ ++ F1.extract (k + 1) F1.size = T := ⟨_, rfl⟩
    have hTd : T.data.toList = F1.data.toList.take k ++ [c] ++ F1.data.toList.drop (k + 1) := by rw [← hT, append_data, append_data, take_data _ _ (by omega), drop_data]
    have hTs : T.size ≤ 1000000000 := by rw [← hT]; simp [mk_size]; omega
    have PT := fun w hsh => PA.out T hTs w hsh
    rw [hTd] at PT
    have hout : (((c.toNat : Int) == (x.toNat : Int)) = true ∧ parseL (F1.data.toList.take k ++ [c] ++ F1.data.toList.drop (k + 1)) = (n, 0)) ∨ (((c.toNat : Int) == (x.toNat : Int)) = false ∧ parseL (F1.data.toList.take k ++ [c] ++ F1.data.toList.drop (k + 1)) = (0, 10)) ∨ (((c.toNat : Int) == (x.toNat : Int)) = false ∧ ∃ p : Int, (p == n) = false ∧ parseL (F1.data.toList.take k ++ [c] ++ F1.data.toList.drop (k + 1)) = (p, 0)) := by
      by_cases hcx : x = c
      · exact .inl ⟨by rw [hcx]; simp, tu1 (by rw [hcx])⟩
      · have hb1 : ((c.toNat : Int) == (x.toNat : Int)) = false := by
          rw [beq_eq_false_iff_ne]
          intro h
          exact hcx (UInt8.toNat_inj.1 (by omega))
        rcases tu2 (by intro h; exact hcx (Option.some.inj h)) with h | ⟨h, h2⟩
        · exact .inr (.inl ⟨hb1, h⟩)
        · exact .inr (.inr ⟨hb1, _, by rw [beq_eq_false_iff_ne]; exact h2, Prod.ext rfl h⟩)
    have HT := Lib.hid hT
    have HX := Lib.hid hx
    have hcb : (c.toNat : Int) ≤ 255 := by have := c.toNat_lt; omega
    clear hsrc tu1 tu2 hget hTd hT hx hTs hK
    rcases hout with ⟨e1, e3⟩ | ⟨e1, e3⟩ | ⟨e1, p, e2, e3⟩
    all_goals
      rw [e3] at PT
      replace PT := Lib.hid PT
      clear e3
      have e1b : ((c.toNat : Int) != (x.toNat : Int)) = !((c.toNat : Int) == (x.toNat : Int)) := rfl
      rw [e1] at e1b
      simp only [Bool.not_true, Bool.not_false] at e1b
    all_goals
      go_enter Tryd.func12, Tryd.ntmps12
      go_wp2_with fail
      refine (AW.out _ (shaped_below Hsh.out ((Below.refl _ _).alloc (Nat.le_refl _) _))).mono ?_
      rintro e w2 ⟨rfl, hb2⟩
      have B2 := Lib.hid (((Below.refl w.heap.size w).alloc (Nat.le_refl _) _).trans (hb2.mono (by simp)))
      have RB := Lib.hid ((RowAt.new w 68 [.int .i64 a, .int .i64 b]).below hb2 (by simp)); clear hb2
      have rb0 := RB.out.lt
      go_upto_region 10 with (first
        | (go_at_call 33; (with_reducible refine (refLast_any _).mono ?_); rintro e w5 ⟨rfl, rfl⟩)
        | (go_at_call 36; (with_reducible refine (FO.out _).mono ?_); rintro e w3 ⟨rfl, hb3⟩; have hb3' := below_step B2.out hb3; have B5 := Lib.hid (hb3'.alloc hb3'.size (.cells #[.string F0, .string F1, .string F2] 64)); have R5 := Lib.hid ((RB.out.below hb3 rb0).alloc (.cells #[.string F0, .string F1, .string F2] 64)); obtain ⟨c0, c1, c2⟩ := str3_cells (RowAt.new w3 64 (str3 F0 F1 F2)); clear hb3 hb3'))
      have q0 := R5.out.cell (j := 0) rfl
      have q1 := R5.out.cell (j := 1) rfl
      go_upto_region 12 with fail
      have hw1 : IntKind.i64.wrap ((k : Int) + 1) = (k : Int) + 1 := IntWalk.i64_in _ ⟨by omega, by omega⟩
      have hk0 : (0 : Int) ≤ (k : Int) := by omega
      have hk1 : (k : Int) ≤ (F1.size : Int) := by omega
      have hk2 : (k : Int) + 1 ≤ (F1.size : Int) := by omega
      have hk3 : (0 : Int) ≤ (k : Int) + 1 := by omega
      refine wp_region_plan (fun w' => Below w.heap.size w w') [(0, true), (1, true), (2, true), (3, true), (7, true), (8, true), (9, true), (10, true), (4, false), (5, false), (6, true), (11, true), (12, true)] (by kernel_rfl) (by kernel_rfl) rfl (by kernel_rfl) (below_drewN B5.out 1) ?_
      intro w1 hH
      iterate 8
        refine plan_take (v := ?_) rfl (by rfl) ?_ ?_
        rotate_left
        · intro w2 hSw
          clear hSw
          go_simp
          try with_reducible rfl
        try simp only [Act.put, List.setIfInBounds_toArray, List.set_cons_zero, List.set_cons_succ]
      refine plan_move rfl (by rfl) (fun K hK => ?_)
      go_simp
      refine hK.out _ _ (hH.out.alloc hH.out.size _) ?_
      have hcs := run_one_c w1 c
      clear hH hK K
      intro hH
      try simp only [Act.put, List.setIfInBounds_toArray, List.set_cons_zero, List.set_cons_succ]
      refine plan_move rfl (by rfl) (fun K hK => ?_)
      go_simp
      refine hK.out _ _ (hH.out) ?_
      clear hH hK K hcs
      intro hH
      try simp only [Act.put, List.setIfInBounds_toArray, List.set_cons_zero, List.set_cons_succ]
      iterate 2
        refine plan_add rfl (by rfl) _ _ _ _ rfl _ _ (by rfl) (by rfl) (by simp [mk_size]; omega) ?_
        try simp only [Act.put, List.setIfInBounds_toArray, List.set_cons_zero, List.set_cons_succ]
      iterate 1
        refine plan_take (v := ?_) rfl (by rfl) ?_ ?_
        rotate_left
        · intro w2 hSw
          clear hSw
          go_simp
          try with_reducible rfl
        try simp only [Act.put, List.setIfInBounds_toArray, List.set_cons_zero, List.set_cons_succ]
      refine plan_done ?_
      have B9 := hH
      clear hH
      rw [HT.out]
      have hx := HX.out
      go_wp2_with (go_at_call 31; refine (PT.out _ (shaped_below Hsh.out B9.out)).mono ?_; rintro e w7 ⟨rfl, hb7⟩; have B10 := Lib.hid (below_step B9.out hb7); clear hb7)
      go_ret
      first
        | exact ⟨rfl, B10.out⟩
        | (have e2b : (p != n) = true := by rw [bne, e2]; rfl
           exact ⟨ret_bool (by simp [e2b]), B10.out⟩)
  · have HSRC := HS2
    have hz1 : 24 ≤ F2.size := by have := Z0.out; have := Z1.out; have := Z2.out; omega
    have hz2 : F2.size ≤ 33 := by have := Z0.out; have := Z1.out; have := Z2.out; omega
    clear Z0 Z1 Z2 HS0 HS1 HS2
    have hsz : ((F2.size : Int) == 0) = false := by rw [beq_eq_false_iff_ne]; omega
    have hsz2 : ¬ ((F2.size : Int) = 0) := by omega
    have ta : -(F2.size : Int) < Int.tmod a F2.size := Int.lt_tmod_of_pos a (by omega)
    have tb : Int.tmod a F2.size < (F2.size : Int) := Int.tmod_lt_of_pos a (by omega)
    obtain ⟨k, hk⟩ : ∃ k : Nat, (Int.tmod a F2.size + F2.size) % (F2.size : Int) = (k : Int) := ⟨((Int.tmod a F2.size + F2.size) % (F2.size : Int)).toNat, by have := Int.emod_nonneg (Int.tmod a F2.size + F2.size) hsz2; omega⟩
    have hkl : k < F2.size := by have := Int.emod_lt_of_pos (Int.tmod a F2.size + F2.size) (show (0 : Int) < F2.size by omega); omega
    obtain ⟨K, hK, hsrc⟩ := HSRC.out
    obtain ⟨tu1, tu2⟩ := turned HM.out hK F2.data.toList hsrc k (by rw [data_len]; exact hkl) c
    obtain ⟨x, hx⟩ : ∃ x, F2[k] = x := ⟨_, rfl⟩
    have hget : F2.data.toList[k]? = some x := by rw [← hx]; exact get_data F2 k hkl
    rw [hget] at tu1 tu2
    obtain ⟨T, hT⟩ : ∃ T : ByteArray, F2.extract 0 k ++ ⟨#[c]⟩ ++ F2.extract (k + 1) F2.size = T := ⟨_, rfl⟩
    have hTd : T.data.toList = F2.data.toList.take k ++ [c] ++ F2.data.toList.drop (k + 1) := by rw [← hT, append_data, append_data, take_data _ _ (by omega), drop_data]
    have hTs : T.size ≤ 1000000000 := by rw [← hT]; simp [mk_size]; omega
    have PT := fun w hsh => PA.out T hTs w hsh
    rw [hTd] at PT
    have hout : (((c.toNat : Int) == (x.toNat : Int)) = true ∧ parseL (F2.data.toList.take k ++ [c] ++ F2.data.toList.drop (k + 1)) = (n, 0)) ∨ (((c.toNat : Int) == (x.toNat : Int)) = false ∧ parseL (F2.data.toList.take k ++ [c] ++ F2.data.toList.drop (k + 1)) = (0, 10)) ∨ (((c.toNat : Int) == (x.toNat : Int)) = false ∧ ∃ p : Int, (p == n) = false ∧ parseL (F2.data.toList.take k ++ [c] ++ F2.data.toList.drop (k + 1)) = (p, 0)) := by
      by_cases hcx : x = c
      · exact .inl ⟨by rw [hcx]; simp, tu1 (by rw [hcx])⟩
      · have hb1 : ((c.toNat : Int) == (x.toNat : Int)) = false := by
          rw [beq_eq_false_iff_ne]
          intro h
          exact hcx (UInt8.toNat_inj.1 (by omega))
        rcases tu2 (by intro h; exact hcx (Option.some.inj h)) with h | ⟨h, h2⟩
        · exact .inr (.inl ⟨hb1, h⟩)
        · exact .inr (.inr ⟨hb1, _, by rw [beq_eq_false_iff_ne]; exact h2, Prod.ext rfl h⟩)
    have HT := Lib.hid hT
    have HX := Lib.hid hx
    have hcb : (c.toNat : Int) ≤ 255 := by have := c.toNat_lt; omega
    clear hsrc tu1 tu2 hget hTd hT hx hTs hK
    rcases hout with ⟨e1, e3⟩ | ⟨e1, e3⟩ | ⟨e1, p, e2, e3⟩
    all_goals
      rw [e3] at PT
      replace PT := Lib.hid PT
      clear e3
      have e1b : ((c.toNat : Int) != (x.toNat : Int)) = !((c.toNat : Int) == (x.toNat : Int)) := rfl
      rw [e1] at e1b
      simp only [Bool.not_true, Bool.not_false] at e1b
    all_goals
      go_enter Tryd.func12, Tryd.ntmps12
      go_wp2_with fail
      refine (AW.out _ (shaped_below Hsh.out ((Below.refl _ _).alloc (Nat.le_refl _) _))).mono ?_
      rintro e w2 ⟨rfl, hb2⟩
      have B2 := Lib.hid (((Below.refl w.heap.size w).alloc (Nat.le_refl _) _).trans (hb2.mono (by simp)))
      have RB := Lib.hid ((RowAt.new w 68 [.int .i64 a, .int .i64 b]).below hb2 (by simp)); clear hb2
      have rb0 := RB.out.lt
      go_upto_region 10 with (first
        | (go_at_call 33; (with_reducible refine (refLast_any _).mono ?_); rintro e w5 ⟨rfl, rfl⟩)
        | (go_at_call 36; (with_reducible refine (FO.out _).mono ?_); rintro e w3 ⟨rfl, hb3⟩; have hb3' := below_step B2.out hb3; have B5 := Lib.hid (hb3'.alloc hb3'.size (.cells #[.string F0, .string F1, .string F2] 64)); have R5 := Lib.hid ((RB.out.below hb3 rb0).alloc (.cells #[.string F0, .string F1, .string F2] 64)); obtain ⟨c0, c1, c2⟩ := str3_cells (RowAt.new w3 64 (str3 F0 F1 F2)); clear hb3 hb3'))
      have q0 := R5.out.cell (j := 0) rfl
      have q1 := R5.out.cell (j := 1) rfl
      go_upto_region 12 with fail
      have hw1 : IntKind.i64.wrap ((k : Int) + 1) = (k : Int) + 1 := IntWalk.i64_in _ ⟨by omega, by omega⟩
      have hk0 : (0 : Int) ≤ (k : Int) := by omega
      have hk1 : (k : Int) ≤ (F2.size : Int) := by omega
      have hk2 : (k : Int) + 1 ≤ (F2.size : Int) := by omega
      have hk3 : (0 : Int) ≤ (k : Int) + 1 := by omega
      refine wp_region_plan (fun w' => Below w.heap.size w w') [(0, true), (1, true), (2, true), (3, true), (7, true), (8, true), (9, true), (10, true), (4, false), (5, false), (6, true), (11, true), (12, true)] (by kernel_rfl) (by kernel_rfl) rfl (by kernel_rfl) (below_drewN B5.out 1) ?_
      intro w1 hH
      iterate 8
        refine plan_take (v := ?_) rfl (by rfl) ?_ ?_
        rotate_left
        · intro w2 hSw
          clear hSw
          go_simp
          try with_reducible rfl
        try simp only [Act.put, List.setIfInBounds_toArray, List.set_cons_zero, List.set_cons_succ]
      refine plan_move rfl (by rfl) (fun K hK => ?_)
      go_simp
      refine hK.out _ _ (hH.out.alloc hH.out.size _) ?_
      have hcs := run_one_c w1 c
      clear hH hK K
      intro hH
      try simp only [Act.put, List.setIfInBounds_toArray, List.set_cons_zero, List.set_cons_succ]
      refine plan_move rfl (by rfl) (fun K hK => ?_)
      go_simp
      refine hK.out _ _ (hH.out) ?_
      clear hH hK K hcs
      intro hH
      try simp only [Act.put, List.setIfInBounds_toArray, List.set_cons_zero, List.set_cons_succ]
      iterate 2
        refine plan_add rfl (by rfl) _ _ _ _ rfl _ _ (by rfl) (by rfl) (by simp [mk_size]; omega) ?_
        try simp only [Act.put, List.setIfInBounds_toArray, List.set_cons_zero, List.set_cons_succ]
      iterate 1
        refine plan_take (v := ?_) rfl (by rfl) ?_ ?_
        rotate_left
        · intro w2 hSw
          clear hSw
          go_simp
          try with_reducible rfl
        try simp only [Act.put, List.setIfInBounds_toArray, List.set_cons_zero, List.set_cons_succ]
      refine plan_done ?_
      have B9 := hH
      clear hH
      rw [HT.out]
      have hx := HX.out
      go_wp2_with (go_at_call 31; refine (PT.out _ (shaped_below Hsh.out B9.out)).mono ?_; rintro e w7 ⟨rfl, hb7⟩; have B10 := Lib.hid (below_step B9.out hb7); clear hb7)
      go_ret
      first
        | exact ⟨rfl, B10.out⟩
        | (have e2b : (p != n) = true := by rw [bne, e2]; rfl
           exact ⟨ret_bool (by simp [e2b]), B10.out⟩)
end Go.Proofs.YtpmidmdodjgeeaaDoor
