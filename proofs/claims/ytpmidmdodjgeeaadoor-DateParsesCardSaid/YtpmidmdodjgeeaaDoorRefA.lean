/- Walks of layer 2's document: months' lengths, a moment's date, names, digits. Condition: numbers within the calendar's bounds. -/
import Derived.Test.YtpmidmdodjgeeaaDoorDat3
import Derived.Test.YtpmidmdodjgeeaaDoorCal4
namespace Go.Proofs.YtpmidmdodjgeeaaDoor
open Go.RowKit IH
set_option maxRecDepth 100000

set_option maxHeartbeats 1000000 in
theorem refLong_any (y m : Int) (y0 : 0 ≤ y) (y1 : y ≤ 100000) (m0 : 0 ≤ m) (m1 : m ≤ 11) (w : World) :
    Calls Tryd.prog 63 #[.int .i64 y, .int .i64 m] w fun e w' => e = .returned (.int .i64 (mlen y (m + 1))) ∧ Below w.heap.size w w' := by
  have hq : m = 1 ∨ m = 0 ∨ m = 2 ∨ m = 3 ∨ m = 4 ∨ m = 5 ∨ m = 6 ∨ m = 7 ∨ m = 8 ∨ m = 9 ∨ m = 10 ∨ m = 11 := by omega
  rcases hq with rfl | hq
  · have e : mlen y (1 + 1) = 28 + leapN y := rfl
    have hv := leapB_val y
    rw [e, hv]
    unfold leapB
    clear e hv
    generalize h4 : (y % 4 == 0) = a
    generalize h100 : (y % 100 == 0) = b
    generalize h400 : (y % 400 == 0) = c
    have hn : (y % 100 != 0) = !b := by rw [bne, h100]
    have hle : c = true → a = true ∧ b = true := by
      intro hc
      subst h4 h100 h400
      simp only [beq_iff_eq] at *
      omega
    cases a <;> cases b <;> cases c
    all_goals first
      | (exfalso; have := hle rfl; simp at this; done)
      | (clear hle
         go_enter Tryd.func63, Tryd.ntmps63
         go_wp2
         go_ret
         exact ⟨rfl, (Below.refl _ _).alloc (Nat.le_refl _) _⟩)
  · rcases hq with rfl | rfl | rfl | rfl | rfl | rfl | rfl | rfl | rfl | rfl | rfl
    all_goals
      go_enter Tryd.func63, Tryd.ntmps63
      go_wp2
      go_ret
      exact ⟨rfl, (Below.refl _ _).alloc (Nat.le_refl _) _⟩
theorem refYear_any (y : Int) (y0 : 0 ≤ y) (y1 : y ≤ 100000) (w : World) :
    Calls Tryd.prog 62 #[.int .i64 y] w fun e w' => e = .returned (.int .i64 (365 + leapN y)) ∧ Below w.heap.size w w' := by
  have L := refLong_any y 1 y0 y1 (by omega) (by omega)
  have e : mlen y (1 + 1) = 28 + leapN y := rfl
  rw [e] at L
  have h01 := leapN_01 y
  generalize leapN y = l at *
  replace L := Lib.hid L
  clear e
  go_enter Tryd.func62, Tryd.ntmps62
  go_wp2_with (go_at_call 63; (with_reducible refine (L.out _).mono ?_); rintro e w2 ⟨rfl, hb2⟩)
  go_ret
  exact ⟨ret_int (by omega), hb2⟩

set_option maxHeartbeats 4000000 in
theorem refWhen_any {mt y m d : Int} (hM : Moment mt y m d) (w : World) :
    Calls Tryd.prog 35 #[.int .i64 mt] w fun e w' => e = .returned (.tuple #[.int .i64 y, .int .i64 (m - 1), .int .i64 d, .int .i64 ((mt / 86400 + 4) % 7)]) ∧ Below w.heap.size w w' := by
  have h0 := hM.h0
  have h1 := hM.h1
  have hyy := hM.year
  have hcy := hM.civ.year
  have HM := Lib.hid hM.civ
  clear hM
  obtain ⟨n, hn⟩ : ∃ n, mt / 86400 = n := ⟨_, rfl⟩
  have n0 : 0 ≤ n := by omega
  have n1 : n ≤ 2932896 := by omega
  rw [hn] at HM hcy
  rw [hn]
  have HCY := Lib.hid hcy; clear hcy
  go_enter Tryd.func35, Tryd.ntmps35
  go_wp2
  rw [hn]
  clear hn
  go_loop [6, 8] (fun a b => ∃ v u : Int, a = .int .i64 v ∧ b = .int .i64 u ∧ 0 ≤ v ∧ v ≤ n ∧ 1970 ≤ u ∧ u ≤ 9999 ∧ v = n - dby u) (fun a _ => (intOf a).toNat)
  case atStart => exact ⟨n, 1970, rfl, rfl, n0, by omega, by omega, by omega, by rw [dby_1970]; omega⟩
  case round =>
    obtain ⟨v, u, rfl, rfl, v0, v1, u0, u1, hv⟩ := hrel
    have Hv := Lib.hid hv; clear hv
    by_cases hc : 146097 ≤ v
    · go_wp2
      go_round
      case rel =>
        have h4 := dby_400 u
        have hv := Hv.out
        refine ⟨v - 146097, u + 400, rfl, rfl, by omega, by omega, by omega, ?_, by omega⟩
        rcases Int.lt_or_le 9999 (u + 400) with hq | hq
        · have := dby_mono 10000 (u + 400) (by omega)
          have := dby_max
          omega
        · exact hq
      case measure => simp [intOf]; omega
    · go_wp2
      clear hc
      go_loopw [6, 8] (fun a b wr => ∃ v u : Int, a = .int .i64 v ∧ b = .int .i64 u ∧ 0 ≤ v ∧ v ≤ n ∧ 1970 ≤ u ∧ u ≤ 9999 ∧ v = n - dby u ∧ Below w.heap.size w wr) (fun a _ _ => (intOf a).toNat)
      case atStart => exact ⟨v, u, rfl, rfl, v0, v1, u0, u1, Hv.out, Below.refl _ _⟩
      case round =>
        clear v0 v1 u0 u1 Hv
        obtain ⟨v, u, rfl, rfl, v0, v1, u0, u1, hv, hbel⟩ := hrel
        have Hv := Lib.hid hv; clear hv
        have YE := refYear_any u (by omega) (by omega)
        have h01 := leapN_01 u
        have hsu := dby_succ u
        obtain ⟨K, hK⟩ : ∃ K, 365 + leapN u = K := ⟨_, rfl⟩
        rw [hK] at YE
        have k0 : 365 ≤ K := by omega
        have k1 : K ≤ 366 := by omega
        have Hsu : Hid (dby (u + 1) = dby u + K) := by have : dby (u + 1) = dby u + K := by omega
                                                       exact Lib.hid this
        replace YE := Lib.hid YE
        have HL := Lib.hid hK
        clear hsu h01 hK
        by_cases hc : K ≤ v
        · go_wp2_with (first
            | (go_at_call 62; (with_reducible refine (YE.out _).mono ?_); rintro e w2 ⟨rfl, hb2⟩; have hbel := below_step hbel hb2; clear hb2))
          go_roundw
          case rel =>
            have hv := Hv.out
            have hs := Hsu.out
            refine ⟨v - K, u + 1, rfl, rfl, by omega, by omega, by omega, ?_, by omega, by assumption⟩
            rcases Int.lt_or_le 9999 (u + 1) with hq | hq
            · have := dby_mono 10000 (u + 1) (by omega)
              have := dby_max
              omega
            · exact hq
          case measure => simp [intOf]; omega
        · have hyu : u = y := by
            have hv := Hv.out
            have hs := Hsu.out
            have hcy := HCY.out
            rcases Int.lt_trichotomy u y with hl | he | hg
            · have := dby_mono (u + 1) y (by omega); omega
            · exact he
            · have := dby_mono (y + 1) u (by omega); omega
          have HYU := Lib.hid hyu
          have HNB : Hid (n < dby (u + 1)) := by have : n < dby (u + 1) := by rw [hyu]; exact HCY.out.2
                                                 exact Lib.hid this
          have hv0 := Hv.out
          have hr0 : n - dby u - cum u 1 = v := by rw [cum_1]; omega
          have HR0 := Lib.hid hr0
          have h12 : ∀ r : Int, r = n - dby u - cum u 12 → r < mlen u 12 := fun r hr => by
            have h1 := cum_succ u 12 (by omega) (by omega)
            have h13 := cum_13 u
            have hsu := dby_succ u
            have hnb := HNB.out
            rw [show (12 : Int) + 1 = 13 from rfl] at h1
            omega
          have H12 := Lib.hid h12
          clear hyu hv0 hr0 h12
          go_wp2_with (go_at_call 62; (with_reducible refine (YE.out _).mono ?_); rintro e w2 ⟨rfl, hb2⟩; have hbel := below_step hbel hb2; clear hb2)
          clear YE Hsu HL k0 k1 hc
          rename_i hbel2
          go_loopw [6, 9] (fun a b ws => ∃ r j : Int, a = .int .i64 r ∧ b = .int .i64 j ∧ 0 ≤ j ∧ j ≤ 11 ∧ 0 ≤ r ∧ r ≤ n ∧ r = n - dby u - cum u (j + 1) ∧ Below w.heap.size w ws) (fun a _ _ => (intOf a).toNat)
          case atStart => exact ⟨v, 0, rfl, rfl, by omega, by omega, v0, v1, HR0.out.symm, by assumption⟩
          case round =>
            obtain ⟨r, j, rfl, rfl, j0, j1, r0, r1, hr, hbs⟩ := hrel
            have Hr := Lib.hid hr
            have LO := refLong_any u j (by omega) (by omega) j0 j1
            have hml := mlen_bd u (j + 1)
            have hcs := cum_succ u (j + 1) (by omega) (by omega)
            have hj : mlen u (j + 1) ≤ r → j ≤ 10 := fun hq => by
              rcases Int.lt_or_le j 11 with hl | hl
              · omega
              · obtain rfl : j = 11 := by omega
                have := H12.out r (by rw [hr]; rfl)
                have e : (11 : Int) + 1 = 12 := rfl
                rw [e] at hq
                omega
            obtain ⟨M, hM⟩ : ∃ M, mlen u (j + 1) = M := ⟨_, rfl⟩
            rw [hM] at LO hml hcs hj
            have HMM := Lib.hid hM
            have Hcs := Lib.hid hcs
            replace LO := Lib.hid LO
            replace hj := Lib.hid hj
            clear hr hcs hM
            by_cases hc : M ≤ r
            · have hj1 := hj.out hc
              go_wp2_with (go_at_call 63; (with_reducible refine (LO.out _).mono ?_); rintro e w2 ⟨rfl, hb2⟩; have hbs := below_step hbs hb2; clear hb2)
              go_roundw
              case rel => exact ⟨r - M, j + 1, rfl, rfl, by omega, by omega, by omega, by omega, by have := Hr.out; have := Hcs.out; omega, by assumption⟩
              case measure => simp [intOf]; omega
            · go_wp2_with (go_at_call 63; (with_reducible refine (LO.out _).mono ?_); rintro e w2 ⟨rfl, hb2⟩; have hbs := below_step hbs hb2; clear hb2)
              have hciv : Civ n u (j + 1) (r + 1) := ⟨by omega, by omega, by omega, by rw [HMM.out]; omega, by have := Hr.out; omega⟩
              obtain ⟨q1, q2, q3⟩ := hciv.uniq HM.out
              refine bodyPost_ret (v := .tuple #[.int .i64 u, .int .i64 j, .int .i64 (r + 1), .int .i64 ((n + 4) % 7)]) (by simp [results, Tryd.results35, go_sem]) rfl ⟨?_, by assumption⟩
              rw [← q1, ← q2, ← q3, show j + 1 - 1 = j by omega]
end Go.Proofs.YtpmidmdodjgeeaaDoor
