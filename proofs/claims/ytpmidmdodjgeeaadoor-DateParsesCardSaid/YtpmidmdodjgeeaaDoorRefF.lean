/- Walk of layer 2's document: a moment of its parts. Condition: parts within bounds. -/
import Derived.Test.YtpmidmdodjgeeaaDoorRefE
namespace Go.Proofs.YtpmidmdodjgeeaaDoor
open Go.RowKit IH
set_option maxRecDepth 100000
theorem refMoment_bad {y m d h mi se : Int} (hb : y < 1970 ∨ m < 0 ∨ d < 1 ∨ mlen y (m + 1) < d ∨ h < 0 ∨ 23 < h ∨ mi < 0 ∨ 59 < mi ∨ se < 0 ∨ 59 < se) : refMoment y m d h mi se = -1 := by
  unfold refMoment; rw [if_pos hb]
set_option maxHeartbeats 8000000 in
theorem refMoment_no (y m d h mi se : Int) (y1 : y ≤ 9999) (m1 : m ≤ 11) (w : World)
    (hb : y < 1970 ∨ m < 0 ∨ d < 1 ∨ mlen y (m + 1) < d ∨ h < 0 ∨ 23 < h ∨ mi < 0 ∨ 59 < mi ∨ se < 0 ∨ 59 < se) :
    Calls Tryd.prog 58 #[.int .i64 y, .int .i64 m, .int .i64 d, .int .i64 h, .int .i64 mi, .int .i64 se] w fun e w' => e = .returned (.int .i64 (-1)) ∧ Below w.heap.size w w' := by
  by_cases h1 : y < 1970
  · clear hb
    go_enter Tryd.func58, Tryd.ntmps58
    go_wp2
    go_ret
    exact ⟨rfl, Below.refl _ _⟩
  · by_cases h2 : m < 0
    · clear hb
      go_enter Tryd.func58, Tryd.ntmps58
      go_wp2
      go_ret
      exact ⟨rfl, Below.refl _ _⟩
    · by_cases h3 : d < 1
      · clear hb
        go_enter Tryd.func58, Tryd.ntmps58
        go_wp2
        go_ret
        exact ⟨rfl, Below.refl _ _⟩
      · have L := refLong_any y m (by omega) (by omega) (by omega) m1
        have hb' : mlen y (m + 1) < d ∨ h < 0 ∨ 23 < h ∨ mi < 0 ∨ 59 < mi ∨ se < 0 ∨ 59 < se := by
          rcases hb with hb | hb | hb | hb
          · exact absurd hb h1
          · exact absurd hb h2
          · exact absurd hb h3
          · exact hb
        generalize mlen y (m + 1) = M at *
        replace L := Lib.hid L
        clear hb
        by_cases h4 : M < d
        · clear hb'
          go_enter Tryd.func58, Tryd.ntmps58
          go_wp2_with (go_at_call 63; (with_reducible refine (L.out _).mono ?_); rintro e w2 ⟨rfl, hb2⟩)
          go_ret
          exact ⟨rfl, hb2⟩
        · by_cases h5 : h < 0
          · clear hb'
            go_enter Tryd.func58, Tryd.ntmps58
            go_wp2_with (go_at_call 63; (with_reducible refine (L.out _).mono ?_); rintro e w2 ⟨rfl, hb2⟩)
            go_ret
            exact ⟨rfl, hb2⟩
          · by_cases h6 : 23 < h
            · clear hb'
              go_enter Tryd.func58, Tryd.ntmps58
              go_wp2_with (go_at_call 63; (with_reducible refine (L.out _).mono ?_); rintro e w2 ⟨rfl, hb2⟩)
              go_ret
              exact ⟨rfl, hb2⟩
            · by_cases h7 : mi < 0
              · clear hb'
                go_enter Tryd.func58, Tryd.ntmps58
                go_wp2_with (go_at_call 63; (with_reducible refine (L.out _).mono ?_); rintro e w2 ⟨rfl, hb2⟩)
                go_ret
                exact ⟨rfl, hb2⟩
              · by_cases h8 : 59 < mi
                · clear hb'
                  go_enter Tryd.func58, Tryd.ntmps58
                  go_wp2_with (go_at_call 63; (with_reducible refine (L.out _).mono ?_); rintro e w2 ⟨rfl, hb2⟩)
                  go_ret
                  exact ⟨rfl, hb2⟩
                · by_cases h9 : se < 0
                  · clear hb'
                    go_enter Tryd.func58, Tryd.ntmps58
                    go_wp2_with (go_at_call 63; (with_reducible refine (L.out _).mono ?_); rintro e w2 ⟨rfl, hb2⟩)
                    go_ret
                    exact ⟨rfl, hb2⟩
                  · have h10 : 59 < se := by omega
                    clear hb'
                    go_enter Tryd.func58, Tryd.ntmps58
                    go_wp2_with (go_at_call 63; (with_reducible refine (L.out _).mono ?_); rintro e w2 ⟨rfl, hb2⟩)
                    go_ret
                    exact ⟨rfl, hb2⟩

set_option maxHeartbeats 8000000 in
theorem refMoment_yes (y m d h mi se : Int) (y0 : 1970 ≤ y) (y1 : y ≤ 9999) (m0 : 0 ≤ m) (m1 : m ≤ 11) (d0 : 1 ≤ d) (d1 : d ≤ mlen y (m + 1)) (h0 : 0 ≤ h) (h1 : h ≤ 23) (i0 : 0 ≤ mi) (i1 : mi ≤ 59) (s0 : 0 ≤ se) (s1 : se ≤ 59) (w : World) :
    Calls Tryd.prog 58 #[.int .i64 y, .int .i64 m, .int .i64 d, .int .i64 h, .int .i64 mi, .int .i64 se] w fun e w' => e = .returned (.int .i64 (joinedAt ((y, m + 1, d), (h, mi, se)))) ∧ Below w.heap.size w w' := by
  have L := refLong_any y m (by omega) (by omega) m0 m1
  have hml := mlen_bd y (m + 1)
  have hymax : dby y ≤ 2932897 := by have := dby_mono y 10000 (by omega); rw [dby_max] at this; exact this
  generalize mlen y (m + 1) = M at *
  replace L := Lib.hid L
  have Hy := Lib.hid hymax
  clear hymax
  go_enter Tryd.func58, Tryd.ntmps58
  go_wp2_with (go_at_call 63; (with_reducible refine (L.out _).mono ?_); rintro e w2 ⟨rfl, hb2⟩; have B2 := Lib.hid hb2; clear hb2)
  clear L
  go_loop [13, 14] (fun x k => ∃ u v : Int, x = .int .i64 v ∧ k = .int .i64 u ∧ 1970 ≤ u ∧ u ≤ y ∧ v = d - 1 + dby u ∧ 0 ≤ v ∧ v ≤ 2933000) (fun _ k => (y - intOf k).toNat)
  case atStart => exact ⟨1970, _, rfl, rfl, by omega, by omega, by rw [dby_1970]; omega, by omega, by omega⟩
  case round =>
    obtain ⟨u, v, rfl, rfl, u0, u1, hv, v0, v1⟩ := hrel
    have Hv := Lib.hid hv; clear hv
    by_cases hc : u + 400 ≤ y
    · go_wp2
      go_round
      case rel =>
        have h4 := dby_400 u
        have h5 := dby_mono (u + 400) y hc
        have := Hv.out
        have := Hy.out
        exact ⟨u + 400, v + 146097, rfl, rfl, by omega, by omega, by omega, by omega, by omega⟩
      case measure => simp [intOf]; omega
    · go_wp2
      clear hc
      go_loopw [13, 14] (fun x k wr => ∃ u v : Int, x = .int .i64 v ∧ k = .int .i64 u ∧ 1970 ≤ u ∧ u ≤ y ∧ v = d - 1 + dby u ∧ 0 ≤ v ∧ v ≤ 2933000 ∧ Below w.heap.size w wr) (fun _ k _ => (y - intOf k).toNat)
      case atStart => exact ⟨u, v, rfl, rfl, u0, u1, Hv.out, v0, v1, B2.out⟩
      case round =>
        clear u0 u1 v0 v1 Hv
        obtain ⟨u, v, rfl, rfl, u0, u1, hv, v0, v1, hbel⟩ := hrel
        have Hv := Lib.hid hv; clear hv
        by_cases hc : u < y
        · have YE := refYear_any u (by omega) (by omega)
          have h01 := leapN_01 u
          have hsu := dby_succ u
          have hmo := dby_mono (u + 1) y (by omega)
          obtain ⟨K, hK⟩ : ∃ K, 365 + leapN u = K := ⟨_, rfl⟩
          rw [hK] at YE
          have k0 : 365 ≤ K := by omega
          have k1 : K ≤ 366 := by omega
          have hnew : v + K = d - 1 + dby (u + 1) := by have := Hv.out; omega
          have hle : v + K ≤ 2933000 := by have := Hy.out; omega
          have Hnew := Lib.hid hnew
          replace YE := Lib.hid YE
          clear hK h01 hsu hmo hnew
          go_wp2_with (go_at_call 62; (with_reducible refine (YE.out _).mono ?_); rintro e w3 ⟨rfl, hb3⟩; have B3 := Lib.hid (below_step hbel hb3); clear hb3)
          go_roundw
          case rel => exact ⟨u + 1, v + K, rfl, rfl, by omega, by omega, Hnew.out, by omega, by omega, B3.out⟩
          case measure => simp [intOf]; omega
        · obtain rfl : u = y := by omega
          go_wp2
          go_loopw [13, 15] (fun x j ws => ∃ r q : Int, x = .int .i64 r ∧ j = .int .i64 q ∧ 0 ≤ q ∧ q ≤ m ∧ r = d - 1 + dby u + cum u (q + 1) ∧ 0 ≤ r ∧ r ≤ 2940000 ∧ Below w.heap.size w ws) (fun _ j _ => (m - intOf j).toNat)
          case atStart => exact ⟨v, 0, rfl, rfl, by omega, m0, by have := Hv.out; rw [show (0 : Int) + 1 = 1 from rfl, cum_1]; omega, v0, by omega, hbel⟩
          case round =>
            obtain ⟨r, q, rfl, rfl, q0, q1, hr, r0, r1, hbs⟩ := hrel
            have Hr := Lib.hid hr; clear hr
            by_cases hq : q < m
            · have LO := refLong_any u q (by omega) (by omega) q0 (by omega)
              have hcs := cum_succ u (q + 1) (by omega) (by omega)
              have hlb := mlen_bd u (q + 1)
              have hcb := cum_bd u (q + 1 + 1)
              have h01 := leapN_01 u
              obtain ⟨K, hK⟩ : ∃ K, mlen u (q + 1) = K := ⟨_, rfl⟩
              rw [hK] at LO hcs hlb
              have hnew : r + K = d - 1 + dby u + cum u (q + 1 + 1) := by have := Hr.out; omega
              have hle : r + K ≤ 2940000 := by have := Hy.out; omega
              have Hnew := Lib.hid hnew
              replace LO := Lib.hid LO
              clear hK hcs hcb h01 hnew
              go_wp2_with (go_at_call 63; (with_reducible refine (LO.out _).mono ?_); rintro e w3 ⟨rfl, hb3⟩; have B3 := Lib.hid (below_step hbs hb3); clear hb3)
              go_roundw
              case rel => exact ⟨r + K, q + 1, rfl, rfl, by omega, by omega, Hnew.out, by omega, by omega, B3.out⟩
              case measure => simp [intOf]; omega
            · obtain rfl : q = m := by omega
              go_wp2
              go_ret
              refine ⟨ret_int ?_, hbs⟩
              have := Hr.out
              simp only [joinedAt]
              omega
theorem refMoment_any (y m d h mi se : Int) (y1 : y ≤ 9999) (m1 : m ≤ 11) (w : World) :
    Calls Tryd.prog 58 #[.int .i64 y, .int .i64 m, .int .i64 d, .int .i64 h, .int .i64 mi, .int .i64 se] w fun e w' => e = .returned (.int .i64 (refMoment y m d h mi se)) ∧ Below w.heap.size w w' := by
  by_cases hb : y < 1970 ∨ m < 0 ∨ d < 1 ∨ mlen y (m + 1) < d ∨ h < 0 ∨ 23 < h ∨ mi < 0 ∨ 59 < mi ∨ se < 0 ∨ 59 < se
  · rw [refMoment_bad hb]
    exact refMoment_no y m d h mi se y1 m1 w hb
  · have e : refMoment y m d h mi se = joinedAt ((y, m + 1, d), (h, mi, se)) := by unfold refMoment; rw [if_neg hb]
    rw [e]
    exact refMoment_yes y m d h mi se (by omega) y1 (by omega) m1 (by omega) (by omega) (by omega) (by omega) (by omega) (by omega) (by omega) (by omega) w
end Go.Proofs.YtpmidmdodjgeeaaDoor
