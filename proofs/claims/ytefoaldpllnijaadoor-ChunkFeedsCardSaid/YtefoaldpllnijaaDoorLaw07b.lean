/- Layer 7's laws: ChunkFeeds, walked. Condition: the world's shape. -/
import Derived.Test.YtefoaldpllnijaaDoorLaw07a
namespace Go.Proofs.YtefoaldpllnijaaDoor
open Go.RowKit IH
set_option maxRecDepth 100000
theorem ahead_err' (out : List UInt8) (a : Nat) (r : List UInt8 × Nat × Int × Dec) (he : r.2.2.1 ≠ 0) : IH.ahead out a r = ([], 0, r.2.2.1, r.2.2.2) := by unfold IH.ahead; rw [if_pos he]
set_option maxHeartbeats 8000000 in
theorem cfeeds_walk (w : World) (hsh : w.ShapedOpen Tryd.prog) (A : Option Addr) (n c : Nat) (L : List UInt8) (hin : SliceIn w w.heap.size 1 A n c (bytesV L)) (A2 : Option Addr) (m c2 : Nat) (K : List UInt8) (hin2 : SliceIn w w.heap.size 1 A2 m c2 (bytesV K)) :
    Calls Tryd.prog 6 #[.slice A n c, .slice A2 m c2] w fun e w' => e = .returned (.bool true) ∧ Below w.heap.size w w' := by
  have AW := Lib.hid (fun w => awake07_any w)
  have hll : L.length = n := by have := hin.1; rw [bytesV_length, Nat.mul_one] at this; exact this
  have hkl : K.length = m := by have := hin2.1; rw [bytesV_length, Nat.mul_one] at this; exact this
  have Hsh := Lib.hid hsh
  have Hin := Lib.hid hin
  have Hin2 := Lib.hid hin2
  have Hll := Lib.hid hll
  have Hkl := Lib.hid hkl
  clear hsh hin hin2 hll hkl
  by_cases hb : 4000 < n ∨ 200 < m
  · have hways : (4000 : Int) < (n : Int) ∨ ((n : Int) ≤ 4000 ∧ (200 : Int) < (m : Int)) := by omega
    clear hb
    rcases hways with h5 | ⟨h5, h6⟩
    all_goals
      go_enter Tryd.func6, Tryd.ntmps6
      go_wp2_with fail
      refine (AW.out _).mono ?_
      rintro e w2 ⟨rfl, hb2⟩
      have B2 := Lib.hid hb2; clear hb2
      go_wp2_with fail
      refine (AW.out _).mono ?_
      rintro e w3 ⟨rfl, hb3⟩
      have B3 := Lib.hid (below_step B2.out hb3); clear hb3
      go_wp2
      go_ret
      exact ⟨rfl, B3.out⟩
  · have h5 : (n : Int) ≤ 4000 := by omega
    have h6 : (m : Int) ≤ 200 := by omega
    clear hb
    go_enter Tryd.func6, Tryd.ntmps6
    go_wp2_with fail
    refine (AW.out _).mono ?_
    rintro e w2 ⟨rfl, hb2⟩
    have B2 := Lib.hid hb2; clear hb2
    obtain ⟨g, hg⟩ : ∃ g, w2.heap.size = g := ⟨_, rfl⟩
    have NW := cnew_any w2
    rw [hg] at NW
    have hwg : w.heap.size ≤ g := by rw [← hg]; exact B2.out.size
    replace NW := Lib.hid NW
    have HG := Lib.hid hg
    clear hg
    go_wp2_with (go_at_call 22; refine NW.out.mono ?_; rintro e w3 ⟨rfl, hr3, hb3⟩; have R3 := Lib.hid hr3; have B3 := Lib.hid (B2.out.trans (hb3.mono (show w.heap.size ≤ g from hwg))); have hg3 := hr3.lt; clear hr3 hb3)
    go_loopw [6, 7, 8, 9] (fun v tk p i wr => ∃ (O : List UInt8) (a b k : Nat) (dd : Dec), tk = .int .i64 a ∧ p = .int .i64 b ∧ i = .int .i64 k ∧ a ≤ b ∧ b ≤ n ∧ k ≤ m + 1 ∧ run Dec.new (L.take b) = (O, a, 0, dd) ∧ DecIn dd ∧ dd.fault = 0 ∧ RowAt wr g 96 (decV dd) ∧ wr.ownsRow (g + 1) 5 1 v O.length (bytesV O) ∧ Below w.heap.size w wr) (fun _ _ _ i _ => m + 1 - (intOf i).toNat)
    case atStart => exact ⟨[], 0, 0, 0, Dec.new, rfl, rfl, rfl, by omega, by omega, by omega, by rw [List.take_zero]; rfl, new_in, rfl, R3.out, World.ownsRow_nil _ _ _ _, B3.out⟩
    case round =>
      clear R3 B3
      obtain ⟨O, a, b, k, dd, rfl, rfl, rfl, hab, hbn, hkm, hrun, hdd, hdf, hrow, hown, hbel⟩ := hrel
      by_cases hlt : k ≤ m
      · have hkI : (k : Int) ≤ (m : Int) := by omega
        have Hrow := Lib.hid hrow
        have Hown := Lib.hid hown
        have Hbel := Lib.hid hbel
        have Hrun := Lib.hid hrun
        have Hdd := Lib.hid hdd
        clear hrow hown hbel hrun hdd
        go_upto_if 54 with fail
        go_cut [10] from 55 to 64 (fun s10 wx => ∃ b2 : Nat, s10 = .int .i64 b2 ∧ b ≤ b2 ∧ b2 ≤ n ∧ wx = wr)
        case first =>
          by_cases hkm2 : k < m
          · obtain ⟨x, hx⟩ : ∃ x, K[k]? = some x := ⟨_, List.getElem?_eq_getElem (by rw [Hkl.out]; exact hkm2)⟩
            obtain ⟨b0, off, rfl, _, hcell⟩ := (Hin2.out.below Hbel.out).2.2.2 (by omega)
            have c0 := hcell k (.int .u8 x.toNat) (by rw [bytesV_get, hx]; rfl)
            have hx255 : (x.toNat : Int) ≤ 255 := by have := x.toNat_lt; omega
            clear hcell hx
            go_wp2_with fail
            go_meet
            exact ⟨min n (b + x.toNat), by go_num, by omega, by omega, rfl⟩
          · go_wp2_with fail
            go_meet
            exact ⟨n, rfl, hbn, by omega, rfl⟩
        case rest =>
          obtain ⟨b2, rfl, hb2, hb2n, hwc⟩ := hcut
          subst hwc
          have hwcs := Hbel.out.size
          have hgl := Hrow.out.lt
          have hnc := Hin.out.2.1
          have j1 : b2 ≤ c := by omega
          have j2 : a ≤ b2 := by omega
          have j1I : (b2 : Int) ≤ (c : Int) := by omega
          have j2I : (a : Int) ≤ (b2 : Int) := by omega
          obtain ⟨A3, hA3⟩ : ∃ A3, (if c = a then A else Option.map (fun x => x.add a) A) = A3 := ⟨_, rfl⟩
          have hsub := (Hin.out.below Hbel.out).sub (a := a) (b := b2) j2 hb2n A3 (fun hlt => by rw [← hA3, if_neg (by omega)]; simp)
          simp only [Nat.mul_one] at hsub
          obtain ⟨C, hC⟩ : ∃ C, (L.drop a).take (b2 - a) = C := ⟨_, rfl⟩
          rw [show ((bytesV L).drop a).take (b2 - a) = bytesV C by unfold bytesV; rw [← List.map_drop, ← List.map_take, hC]] at hsub
          have hCl : C.length = b2 - a := by rw [← hC, List.length_take, List.length_drop, Hll.out]; omega
          have hR2 : run Dec.new (L.take b2) = IH.ahead O a (run dd C) := by
            have e1 : L.take b2 = L.take b ++ (L.take b2).drop b := by
              conv => lhs; rw [← List.take_append_drop b (L.take b2), List.take_take, show min b b2 = b by omega]
            rw [e1, feed_on Hrun.out (by rw [List.length_take, Hll.out]; omega), ← e1, List.drop_take, hC]
          have htk := (Hin.out).sub (a := 0) (b := b2) (by omega) hb2n A (fun _ => by cases A <;> simp [Addr.add])
          simp only [Nat.sub_zero, Nat.mul_one, List.drop_zero] at htk
          rw [show (bytesV L).take b2 = bytesV (L.take b2) by simp [bytesV, List.map_take]] at htk
          have hle := run_le C.length dd C (Nat.le_refl _)
          have hin2 := run_in C.length dd C (Nat.le_refl _) Hdd.out
          have hfl := run_fault C.length dd C (Nat.le_refl _) hdf
          obtain ⟨Q, hQ⟩ : ∃ Q, run dd C = Q := ⟨_, rfl⟩
          rw [hQ] at hR2 hle hin2 hfl
          obtain ⟨x, k6, e, d2⟩ := Q
          simp only at hle hin2 hfl
          have Hsub := Lib.hid ((hsub.alloc hwcs (.cells #[] 5)))
          have Hlit := Lib.hid (World.ownsRow_lit (base := wc.heap.size) (e := 5) (size := 1) wc #[] 0 (Nat.le_refl _) (by simp [maxLen]) rfl)
          have Htk := Lib.hid htk
          have HQ := Lib.hid hQ
          have HCl := Lib.hid hCl
          have tok0 : True := trivial
          have tok6 : True := trivial
          clear hsub htk hQ hC hCl
          by_cases he : e = 0
          · subst he
            rw [ahead_ok] at hR2
            have HR2 := Lib.hid hR2
            obtain ⟨t2, ht2⟩ : ∃ t2 : Nat, a + k6 = t2 := ⟨_, rfl⟩
            have ht2I : (a : Int) + (k6 : Int) = (t2 : Int) := by omega
            have ht2b : t2 ≤ b2 := by have := HCl.out; omega
            have Hin3 := Lib.hid (hin2 rfl)
            have Hxl : Hid (x.length ≤ 4000) := Lib.hid (by have := run_out C.length dd C (Nat.le_refl _); rw [HQ.out] at this; simp only at this; have := HCl.out; omega)
            clear hR2 hle hin2
            go_upto_region 23 with (first
            | (at_builtin; have _t := tok0; refine wpList_appN u8_ty rfl _ _ rfl wc.heap.size _ 0 [] rfl Hlit.out (by intro h; cases h) w.heap.size A3 (b2 - a) (c - a) (bytesV C) rfl Hsub.out (bytesV_one C) (by omega) (by simp only [maxLen]; omega) (by simp) ?_; intro g5 cap5 w5 hown5 hgr5; rw [Nat.zero_add, List.nil_append] at hown5; simp only [Nat.zero_add]; have E5 := Lib.hid ((below_al wc (.cells #[] 5)).grown hgr5 (by simp) (fun q hq => (Hlit.out.lt q hq).1)); have L5 := Hbel.out.trans (E5.out.mono hwcs); have hg5 := (hown5.lt g5 rfl).1; have F5 := Lib.hid (cfeed_any g g5 0 (b2 - a) cap5 w.heap.size dd C w5 L5.size hwg (fun W hW => shaped_below Hsh.out (L5.trans hW)) (Hrow.out.below E5.out hgl) Hdd.out hdf (SliceIn.of_own hown5) (by omega) (by omega)); have O5 := Lib.hid (own_below Hown.out E5.out); have M5 := Lib.hid L5; have hl5 := Nat.lt_of_lt_of_le hgl E5.out.size; clear tok0 _t hown5 hgr5 L5 hg5 E5)
            | (go_at_call 23; have _t := tok6; rw [HQ.out] at F5; (with_reducible refine F5.out.mono ?_); rintro e' w6 ⟨v6, rfl, ho6, hr6, hs6⟩; obtain ⟨A6, C6, rfl, hsl6⟩ := own_slice ho6; have R6 := Lib.hid hr6; have O6 := Lib.hid (own_save O5.out (fun i hi hn => hs6.block i hi hn) (Nat.lt_succ_self g)); have M6 := Lib.hid (M5.out.trans ((hs6.mono M5.out.size).below hwg)); have X6 := Lib.hid hsl6; have hl6 := hs6.size; have hg6 := hr6.lt; clear ho6 hr6 hs6 hsl6 F5 _t tok6)
            | (go_at_call 24; have TD := told_any A b2 c (L.take b2) w6 (((Htk.out.below M6.out)).more M6.out.size) (by omega); rw [HR2.out] at TD; (with_reducible refine TD.mono ?_); clear TD; rintro e' w7 ⟨v7, rfl, ho7, hb7⟩; obtain ⟨A7, C7, rfl, hsl7⟩ := own_slice ho7; have R7 := Lib.hid (R6.out.below hb7 hg6); have O7 := Lib.hid (own_below O6.out hb7); have M7 := Lib.hid (below_step M6.out hb7); have X7 := Lib.hid ((X6.out.below hb7).more hb7.size); have Y7 := Lib.hid ho7; have OL := Lib.hid (fun q hq => (O6.out.lt q hq).2); have hg7 := Nat.lt_of_lt_of_le hg6 hb7.size; clear ho7 hb7 hsl7))
            have hOl : O.length ≤ 4000 := by
              have h1 := run_out (L.take b).length Dec.new (L.take b) (Nat.le_refl _)
              rw [Hrun.out] at h1
              simp only at h1
              omega
            have hg8 : g + 1 ≤ w7.heap.size := hg7
            go_wp2_with (at_builtin; have hxl := Hxl.out; refine wpList_appS u8_ty rfl _ _ rfl (g + 1) _ _ _ rfl O7.out w7.heap.size _ _ _ _ rfl X7.out (bytesV_one _) (by omega) (by simp only [maxLen]; omega) hg8 ?_; intro v8 w8 hown8 hgr8; rw [← bytesV_append] at hown8; obtain ⟨A8, C8, rfl, hsl8⟩ := own_slice hown8; have q1 := run_string_of (P := Tryd.prog) hsl8 22 9 5 Tryd.underlying22 Tryd.underlying5 Tryd.underlying9; have q2 := run_string_of (P := Tryd.prog) (SliceIn.of_own (own_past Y7.out hgr8 (fun q hq => OL.out q hq))) 22 9 5 Tryd.underlying22 Tryd.underlying5 Tryd.underlying9; rw [List.length_append] at q2; clear hxl)
            go_roundw
            case rel =>
              refine ⟨O ++ x, t2, b2, k + 1, d2, rfl, rfl, by go_num, ht2b, hb2n, by omega, by rw [HR2.out, ht2], Hin3.out, hfl, row_far R7.out hgr8 O7.out (Nat.lt_succ_self g), ?_, M7.out.grown hgr8 (by omega) (fun q hq => by have := (O7.out.lt q hq).1; omega)⟩
              rw [List.length_append]; exact hown8
            case measure => simp [intOf]; omega
          · rw [ahead_err' _ _ _ he] at hR2
            have HR2 := Lib.hid hR2
            have neb : (e != 0) = true := by rw [bne_iff_ne]; exact he
            have hf2 : d2.fault ≠ 0 := by rw [hfl]; exact he
            obtain ⟨rfl, rfl⟩ : x = [] ∧ k6 = 0 := by
              have := run_err dd C (by rw [HQ.out]; exact he)
              rw [HQ.out] at this
              exact ⟨this.1, this.2.1⟩
            have FF := fun (z : Value) (W : World) (hr : RowAt W g 96 (decV d2)) => cfeedF_any g d2 z W hr hf2
            simp only [hfl] at FF
            replace FF := Lib.hid FF
            clear hR2 hle hin2 he
            go_upto_region 20 with (first
            | (at_builtin; have _t := tok0; refine wpList_appN u8_ty rfl _ _ rfl wc.heap.size _ 0 [] rfl Hlit.out (by intro h; cases h) w.heap.size A3 (b2 - a) (c - a) (bytesV C) rfl Hsub.out (bytesV_one C) (by omega) (by simp only [maxLen]; omega) (by simp) ?_; intro g5 cap5 w5 hown5 hgr5; rw [Nat.zero_add, List.nil_append] at hown5; simp only [Nat.zero_add]; have E5 := Lib.hid ((below_al wc (.cells #[] 5)).grown hgr5 (by simp) (fun q hq => (Hlit.out.lt q hq).1)); have L5 := Hbel.out.trans (E5.out.mono hwcs); have hg5 := (hown5.lt g5 rfl).1; have F5 := Lib.hid (cfeed_any g g5 0 (b2 - a) cap5 w.heap.size dd C w5 L5.size hwg (fun W hW => shaped_below Hsh.out (L5.trans hW)) (Hrow.out.below E5.out hgl) Hdd.out hdf (SliceIn.of_own hown5) (by omega) (by omega)); have O5 := Lib.hid (own_below Hown.out E5.out); have M5 := Lib.hid L5; have hl5 := Nat.lt_of_lt_of_le hgl E5.out.size; clear tok0 _t hown5 hgr5 L5 hg5 E5)
            | (go_at_call 23; have _t := tok6; rw [HQ.out] at F5; (with_reducible refine F5.out.mono ?_); rintro e' w6 ⟨v6, rfl, ho6, hr6, hs6⟩; obtain ⟨A6, C6, rfl, hsl6⟩ := own_slice ho6; have R6 := Lib.hid hr6; have O6 := Lib.hid (own_save O5.out (fun i hi hn => hs6.block i hi hn) (Nat.lt_succ_self g)); have M6 := Lib.hid (M5.out.trans ((hs6.mono M5.out.size).below hwg)); have X6 := Lib.hid hsl6; have hl6 := hs6.size; have hg6 := hr6.lt; clear ho6 hr6 hs6 hsl6 F5 _t tok6)
            | (go_at_call 24; have TD := told_any A b2 c (L.take b2) w6 (((Htk.out.below M6.out)).more M6.out.size) (by omega); rw [HR2.out] at TD; (with_reducible refine TD.mono ?_); clear TD; rintro e' w7 ⟨v7, rfl, ho7, hb7⟩; obtain ⟨A7, C7, rfl, hsl7⟩ := own_slice ho7; have R7 := Lib.hid (R6.out.below hb7 hg6); have O7 := Lib.hid (own_below O6.out hb7); have M7 := Lib.hid (below_step M6.out hb7); have X7 := Lib.hid ((X6.out.below hb7).more hb7.size); have Y7 := Lib.hid ho7; have OL := Lib.hid (fun q hq => (O6.out.lt q hq).2); have hg7 := Nat.lt_of_lt_of_le hg6 hb7.size; clear ho7 hb7 hsl7))
            have tokA : True := trivial
            go_wp2_with (first
              | (go_at_call 23; have _t := tokA; (with_reducible refine (FF.out _ _ R7.out).mono ?_); rintro e' w8 ⟨rfl, q8, hw8⟩; have R8 : Hid (RowAt w8 g 96 (decV d2)) := Lib.hid (by rw [hw8]; exact R7.out.drewN q8); have M8 : Hid (Below w.heap.size w w8) := Lib.hid (by rw [hw8]; exact below_drewN M7.out q8); have k8 := Lib.run_convert_bytes_const (P := Tryd.prog) w8 22 5 #[.int .u8 48, .int .u8 13, .int .u8 10, .int .u8 13, .int .u8 10] 5 5 Tryd.underlying22 Tryd.underlying5; clear hw8 tokA _t; have tokB : True := trivial)
              | (go_at_call 23; have _t := tokB; (with_reducible refine (FF.out _ _ (R8.out.alloc _)).mono ?_); rintro e' w9 ⟨rfl, q9, hw9⟩; have M9 : Hid (Below w.heap.size w w9) := Lib.hid (by rw [hw9]; exact below_drewN (M8.out.alloc M8.out.size _) q9); clear hw9 k8 tokB _t))
            go_ret
            exact ⟨ret_bool (by simp), M9.out⟩
      · have hkI : ¬ (k : Int) ≤ (m : Int) := by omega
        have Hbel := Lib.hid hbel
        clear hrun hdd hdf hrow hown hbel
        go_wp2
        go_ret
        exact ⟨rfl, Hbel.out⟩
end Go.Proofs.YtefoaldpllnijaaDoor
