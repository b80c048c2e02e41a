/- Layer 3's laws: FieldBounds, walked. Condition: the world's shape. -/
import Derived.Test.YtpmidmdodjgeeaaDoorLaw03b
import Derived.Test.YtpmidmdodjgeeaaDoorFie13
import Derived.Test.YtpmidmdodjgeeaaDoorFld2
namespace Go.Proofs.YtpmidmdodjgeeaaDoor
open Go.RowKit IH
set_option maxRecDepth 100000
/-- So many x, and zeros behind. -/
def xz (m j : Nat) : List UInt8 := xs j ++ List.replicate (m - j) 0
theorem xz_set (m j : Nat) (hj : j < m) : (bytesV (xz m j)).set j (byteV 120) = bytesV (xz m (j + 1)) := by
  have e : m - j = (m - (j + 1)) + 1 := by omega
  have h1 : xz m j = xs j ++ 0 :: List.replicate (m - (j + 1)) 0 := by unfold xz; rw [e, List.replicate_succ]
  have h2 : xz m (j + 1) = xs j ++ 120 :: List.replicate (m - (j + 1)) 0 := by unfold xz xs; rw [List.replicate_succ']; simp
  rw [h1, h2, bytesV_append, bytesV_append, List.set_append_right _ _ (by simp [bytesV, xs])]
  simp [bytesV, xs]
theorem xz_full (m : Nat) : xz m m = xs m := by unfold xz; simp
theorem xz_zero (m : Nat) : bytesV (xz m 0) = (madeCells (Value.int .u8 0).cells (m * 1)).toList := by
  rw [Nat.mul_one]
  have : (Value.int .u8 0).cells = #[.int .u8 0] := rfl
  rw [this, toList_madeCells_one]
  unfold xz xs bytesV
  simp [byteV]
theorem bounds_k {n : Int} (p : Int) (hp : 0 < p) : 0 ≤ Int.tmod (Int.tmod n p + p) p ∧ Int.tmod (Int.tmod n p + p) p < p := by
  have h1 : -p < Int.tmod n p := Int.lt_tmod_of_pos n hp
  have h2 : 0 ≤ Int.tmod n p + p := by omega
  rw [Int.tmod_eq_emod_of_nonneg h2]
  exact ⟨Int.emod_nonneg _ (by omega), Int.emod_lt_of_pos _ hp⟩
/-- A string turned into octets, and what then reads as it. -/
theorem bytes_in (W : World) (S : ByteArray) (hS : S.size ≤ 1000000) : ∃ C, grownCap W S.size 0 5 = C ∧ SliceIn (Lib.bytesWorld W 5 S) (Lib.bytesWorld W 5 S).heap.size 1 (some ⟨W.heap.size, 0, none⟩) S.size C (bytesV S.data.toList) :=
  ⟨_, rfl, (RowAt.bytes W 5 S).slice (by rw [bytesV_length, data_len, Nat.mul_one]) (grownCap_ge W S.size 0 5) (grownCap_le_maxLen W S.size 0 5 (by simp only [maxLen]; omega))⟩
set_option maxHeartbeats 8000000 in
theorem fbounds_walk (w : World) (hsh : w.ShapedOpen Tryd.prog) (a : Int) (_ha : (Lit.int .i64 a).wf = true) (b : Int) (_hb : (Lit.int .i64 b).wf = true) :
    Calls Tryd.prog 6 #[.int .i64 a, .int .i64 b] w fun e w' => e = .returned (.bool true) ∧ Below w.heap.size w w' := by
  have AW := Lib.hid (awake03_any w hsh)
  have Hsh := Lib.hid hsh
  clear hsh
  have hk9 := bounds_k (n := a) 9 (by omega)
  have hk20 := bounds_k (n := b) 20 (by omega)
  have a1 : -9 < Int.tmod a 9 := Int.lt_tmod_of_pos a (by omega)
  have a2 : Int.tmod a 9 < 9 := Int.tmod_lt_of_pos a (by omega)
  have b1 : -20 < Int.tmod b 20 := Int.lt_tmod_of_pos b (by omega)
  have b2 : Int.tmod b 20 < 20 := Int.tmod_lt_of_pos b (by omega)
  go_enter Tryd.func6, Tryd.ntmps6
  go_upto_region 5 with (go_at_call 13; refine AW.out.mono ?_; rintro e w2 ⟨rfl, hb2⟩; have B2 := Lib.hid hb2; clear hb2)
  obtain ⟨k, hk⟩ : ∃ k, (Int.tmod a 9 + 9) % 9 = k := ⟨_, rfl⟩
  obtain ⟨r, hr⟩ : ∃ r, 120 + Int.tmod b 20 % 20 = r := ⟨_, rfl⟩
  have k0 : 0 ≤ k := by omega
  have k1 : k < 9 := by omega
  have r0 : 120 ≤ r := by omega
  have r1 : r < 140 := by omega
  rw [hk, hr]
  obtain ⟨K, rfl⟩ : ∃ K : Nat, k = K := ⟨k.toNat, by omega⟩
  obtain ⟨n, rfl⟩ : ∃ n : Nat, r = n := ⟨r.toNat, by omega⟩
  obtain ⟨m, hm⟩ : ∃ m : Nat, 65525 + K = m := ⟨_, rfl⟩
  have hmI : (65525 : Int) + (K : Int) = (m : Int) := by omega
  have m0 : 65525 ≤ m := by omega
  have m1 : m ≤ 65533 := by omega
  have n0 : 120 ≤ n := by omega
  have n1 : n < 140 := by omega
  have Hm := Lib.hid hm
  clear hk hr hk9 hk20 a1 a2 b1 b2 k0 k1 r0 r1 hm
  obtain ⟨i0, hi, hz0, hz1, hz2⟩ := info_parts u8_ty.hi
  have hB2 := B2.out.size
  go_wp2_with (at_make; refine wpList_make_full _ rfl _ _ 22 rfl w.heap.size 5 i0 (.int .u8 0) 1 Tryd.underlying22 hi hz0 hz1 .i64 .i64 _ _ m rfl rfl (by omega) (by omega) (by rw [hz2]; omega) (by simp only [maxLen]; omega) hB2 ?_; intro w3 hown3 hgr3; rw [← xz_zero] at hown3; have R3 := Lib.hid hown3; have B3 := Lib.hid (B2.out.grown hgr3 hB2 (fun q hq => by cases hq)); clear hown3 hgr3)
  clear hi hz0 hz1 hz2
  go_loopw [8] (fun i wr => ∃ j : Nat, j ≤ m ∧ i = .int .i64 j ∧ wr.ownsRow w.heap.size 5 1 (.slice (some ⟨w2.heap.size, 0, none⟩) m m) m (bytesV (xz m j)) ∧ Below w.heap.size w wr) (fun i _ => m - (intOf i).toNat)
  case atStart => exact ⟨0, by omega, rfl, R3.out, B3.out⟩
  case round =>
    clear R3 B3
    obtain ⟨j, hj, rfl, hrow, hbel⟩ := hrel
    have Hrow := Lib.hid hrow
    clear hrow
    by_cases hlt : j < m
    · obtain ⟨y0, e0⟩ : ∃ v, wr.cell? ⟨w2.heap.size, j, none⟩ = some v := by
        have hl := Hrow.out.1
        exact ⟨_, by rw [Hrow.out.cellAt j (by omega), List.getElem?_eq_getElem (by omega)]⟩
      have f0 := Hrow.out.frozenAt j
      have hst := Hrow.out.stored j (.int .u8 120)
      have e120 : Value.int .u8 120 = byteV 120 := rfl
      rw [e120, xz_set m j hlt] at hst
      have Hst := Lib.hid hst
      have hbs := hbel.size
      clear hst e120
      go_wp2
      go_roundw
      case rel => exact ⟨j + 1, by omega, by go_num, Hst.out.1, hbel.grown Hst.out.2 hbs (fun q hq => by injection hq with hq; omega)⟩
      case measure => simp [intOf]; omega
    · obtain rfl : m = j := by omega
      obtain ⟨w0, rfl⟩ : ∃ w0 : World, w0 = wr := ⟨_, rfl⟩
      rw [xz_full] at Hrow
      have HV := Lib.hid (SliceIn.of_own Hrow.out)
      obtain ⟨S, hS⟩ : ∃ S : ByteArray, (⟨(xs m).toArray⟩ : ByteArray) = S := ⟨_, rfl⟩
      have hSs : S.size = m := by rw [← hS, size_mk, xs_length]
      have hSd : S.data.toList = xs m := by rw [← hS]
      have hSb : S.size ≤ 65533 := by omega
      have hc1 := run_string_of (P := Tryd.prog) HV.out 22 9 5 Tryd.underlying22 Tryd.underlying5 Tryd.underlying9
      rw [hS] at hc1
      have HF : Hid (fldsV [([97], xs m)] = [.string ⟨#[97]⟩, .string S]) := Lib.hid (by rw [← hS]; rfl)
      have hsm : smallF 1000000000 [([97], xs m)] := fun f hf => by
        rw [List.mem_singleton.1 hf]
        simp only [xs_length, List.length_singleton]
        omega
      have rb := row_size (RowAt.new (w0.alloc (.cells #[.string ⟨#[97]⟩, .string S] 44)) 44 (fldsV [([97], xs m)])) (g' := w0.heap.size + 1) (by simp)
      have PR := fprint_any (some ⟨w0.heap.size + 1, 0, none⟩) 1 1 [([97], xs m)] _ (slice_of_flds rb 1 1 rfl (Nat.le_refl _) (by simp [maxLen])) (by omega) hsm
      rw [HF.out] at PR
      have op := one_parse m
      obtain ⟨E, hE⟩ : ∃ E, faultL [([97], xs m)] = E := ⟨_, rfl⟩
      rw [hE] at PR
      obtain ⟨PB, hPB⟩ : ∃ PB, (if E = 0 then printL [([97], xs m)] else []) = PB := ⟨_, rfl⟩
      rw [hPB] at PR
      obtain ⟨Z, hZ⟩ : ∃ Z, PB.length = Z := ⟨_, rfl⟩
      rw [hZ] at PR
      rw [one_fault] at hE
      have hKE : ((K : Int) ≤ 4 ∧ E = 0) ∨ (4 < (K : Int) ∧ E = 12) := by
        by_cases h : m + 7 ≤ 65536
        · rw [if_pos h] at hE; left; omega
        · rw [if_neg h] at hE; right; omega
      have hop : (parseFs (printL [([97], xs m)])).2.1 = (Z : Int) ∧ (parseFs (printL [([97], xs m)])).2.2 = E := by
        rw [op]
        by_cases h : m + 7 ≤ 65536
        · rw [if_pos h] at hE ⊢
          rw [if_pos hE.symm] at hPB
          refine ⟨?_, hE⟩
          rw [← hZ, ← hPB, printL_length, one_size]
        · rw [if_neg h] at hE ⊢
          rw [if_neg (by omega)] at hPB
          refine ⟨?_, hE⟩
          rw [← hZ, ← hPB]; rfl
      obtain ⟨Tx, hTx⟩ : ∃ Tx : ByteArray, (⟨#[97, 58, 32]⟩ : ByteArray) ++ S ++ ⟨#[13, 10, 13, 10]⟩ = Tx := ⟨_, rfl⟩
      have hTd : Tx.data.toList = printL [([97], xs m)] := by rw [← hTx, append_data, append_data, hSd, one_print]
      have hTs : Tx.size = m + 7 := by rw [← data_len, hTd, printL_length, one_size]
      have hTb : Tx.size ≤ 1000000 := by omega
      have HKE := Lib.hid hKE
      have Hop := Lib.hid hop
      have HTd := Lib.hid hTd
      have HS := Lib.hid hS
      have HSd := Lib.hid hSd
      have HSs := Lib.hid hSs
      have Hbel := Lib.hid hbel
      have B4 : Hid (Below w.heap.size w ((w0.alloc (.cells #[.string ⟨#[97]⟩, .string S] 44)).alloc (.cells #[.string ⟨#[97]⟩, .string S] 44))) := Lib.hid ((hbel.alloc hbel.size _).alloc (by have := hbel.size; simp; omega) _)
      have D4 : Hid (Below w0.heap.size w0 ((w0.alloc (.cells #[.string ⟨#[97]⟩, .string S] 44)).alloc (.cells #[.string ⟨#[97]⟩, .string S] 44))) := Lib.hid ((below_al w0 _).alloc (by simp) _)
      replace PR := Lib.hid PR
      clear hS hSs hSd rb op hE hPB hZ hKE hop hTd hTs hbel hsm hlt hj
      go_upto_region 13 with (first
        | (go_at_call 26; refine PR.out.mono ?_; rintro e w5 ⟨v5, rfl, hrow5, hb5⟩; have B5 := Lib.hid (below_step B4.out hb5); have D5 := Lib.hid (D4.out.trans (hb5.mono (by simp; omega))); obtain ⟨A5, C5, rfl, hsl5⟩ := own_slice hrow5; have hc2 := run_string_of (P := Tryd.prog) (HV.out.below D5.out) 22 9 5 Tryd.underlying22 Tryd.underlying5 Tryd.underlying9; rw [HS.out] at hc2; have hcv := Lib.run_convert_string_bytes (P := Tryd.prog) w5 9 22 5 Tx Tryd.underlying9 Tryd.underlying22 Tryd.underlying5; obtain ⟨C6, hC6, hs6⟩ := bytes_in w5 Tx hTb; rw [hC6] at hcv; rw [HTd.out] at hs6; have B6 := Lib.hid (below_step B5.out (below_bytesWorld w5 5 Tx)); have D6 := Lib.hid (below_step D5.out (below_bytesWorld w5 5 Tx)); have PA := fparse_any w5.heap.size 0 Tx.size C6 (printL [([97], xs m)]) _ (shaped_below Hsh.out B6.out) hs6 (by omega); rw [Hop.out.1, Hop.out.2] at PA; replace PA := Lib.hid PA; clear hs6 hC6 hrow5 hb5 hsl5; generalize Lib.bytesWorld w5 5 Tx = w6 at *)
        | (go_at_call 14; refine PA.out.mono ?_; rintro e w7 ⟨v7, rfl, hrow7, hb7⟩; have B7 := Lib.hid (below_step B6.out hb7); have D7 := Lib.hid (below_step D6.out hb7); clear hrow7 hb7 hc2 hcv))
      clear PR PA B6 D6 B5 D5 B4 D4 hTx hTb HTd HS hc1 AW
      have Hn3 : Hid (faultL (List.replicate n ([98], [99])) = if n ≤ 128 then 0 else 13) := Lib.hid (bcs_fault n (by omega))
      have Hp3 : Hid (parseFs (printL (List.replicate n ([98], [99]))) = if n ≤ 128 then (List.replicate n ([98], [99]), ((6 * n + 2 : Nat) : Int), 0) else ([], 0, 13)) := Lib.hid (bcs_parse n (by omega))
      have Hx3 : Hid (parseFs (xs m) = ([], 0, 11)) := Lib.hid (xs_parse m (by omega))
      have HFb : Hid (fldsV [([98], [99])] = [.string ⟨#[98]⟩, .string ⟨#[99]⟩]) := Lib.hid rfl
      rcases HKE.out with ⟨hK4, rfl⟩ | ⟨hK4, rfl⟩
      all_goals
        clear HKE Hop
        go_wp2
        go_loopw [15, 16, 17] (fun v s i wq => ∃ (j : Nat) (T : ByteArray), j ≤ n ∧ i = .int .i64 j ∧ s = .string T ∧ T.data.toList = (List.replicate j (([98], [99]) : Fld)).flatMap line1 ∧ wq.ownsRow w0.heap.size 44 2 v j (fldsV (List.replicate j ([98], [99]))) ∧ Below w.heap.size w wq ∧ Below w0.heap.size w0 wq) (fun _ _ i _ => n - (intOf i).toNat)
        case atStart => exact ⟨0, ⟨#[]⟩, by omega, rfl, rfl, rfl, World.ownsRow_nil _ _ _ _, B7.out, D7.out⟩
        case round =>
          clear B7 D7 hK4
          obtain ⟨j, T, hj, rfl, rfl, hT, hrow, hbq, hdq⟩ := hrel
          have Hrow2 := Lib.hid hrow
          have Bq := Lib.hid hbq
          have Dq := Lib.hid hdq
          have hTs : T.size = 6 * j := by
            have h1 := lines_length (List.replicate j (([98], [99]) : Fld))
            rw [bcs_size] at h1
            rw [← data_len, hT]
            omega
          have HT := Lib.hid hT
          have hTb : T.size ≤ 1000 := by omega
          have hBq := hdq.size
          clear hrow hbq hdq hT hTs
          by_cases hlt : j < n
          · have hre : List.replicate (j + 1) (([98], [99]) : Fld) = List.replicate j ([98], [99]) ++ [([98], [99])] := List.replicate_succ'
            have Hre := Lib.hid hre
            clear hre
            go_wp2_with (at_builtin; refine wpList_app fld_ty rfl _ _ rfl w0.heap.size _ j _ rfl Hrow2.out 1 1 [.string ⟨#[98]⟩, .string ⟨#[99]⟩] rfl (by rfl) (by rw [← HFb.out]; exact fldsV_one [([98], [99])]) (by omega) (by simp only [maxLen]; omega) hBq ?_; intro v' w9 hown' hgr)
            go_roundw
            case rel =>
              refine ⟨j + 1, T ++ ⟨#[98, 58, 32, 99, 13, 10]⟩, by omega, by go_num, rfl, ?_, ?_, Bq.out.grown hgr Bq.out.size (fun q hq => by have := (Hrow2.out.lt q hq).1; have := Hbel.out.size; omega), Dq.out.grown hgr hBq (fun q hq => (Hrow2.out.lt q hq).1)⟩
              · rw [append_data, HT.out, Hre.out, List.flatMap_append]
                rfl
              · rw [Hre.out, fldsV_append, HFb.out]
                exact hown'
            case measure => simp [intOf]; omega
          · obtain rfl : n = j := by omega
            obtain ⟨A8, C8, rfl, hsl8⟩ := own_slice Hrow2.out
            have hsm8 : smallF 1000000000 (List.replicate n (([98], [99]) : Fld)) := fun f hf => by
              rw [(List.mem_replicate.1 hf).2]
              simp
            have PF := fprint_any A8 n C8 (List.replicate n (([98], [99]) : Fld)) _ hsl8 (by omega) hsm8
            rw [Hn3.out] at PF
            obtain ⟨E3, hE3⟩ : ∃ E3 : Int, (if n ≤ 128 then (0 : Int) else 13) = E3 := ⟨_, rfl⟩
            rw [hE3] at PF
            generalize (if E3 = 0 then printL (List.replicate n (([98], [99]) : Fld)) else []) = PB3 at PF
            have hp3 := Hp3.out
            obtain ⟨NL, hNL⟩ : ∃ NL, (parseFs (printL (List.replicate n (([98], [99]) : Fld)))).1.length = NL := ⟨_, rfl⟩
            obtain ⟨Z3, hZ3⟩ : ∃ Z3, (parseFs (printL (List.replicate n (([98], [99]) : Fld)))).2.1 = Z3 := ⟨_, rfl⟩
            have hcase : (parseFs (printL (List.replicate n (([98], [99]) : Fld)))).2.2 = E3 ∧ (((n : Int) ≤ 128 ∧ E3 = 0 ∧ NL = n) ∨ (128 < (n : Int) ∧ E3 = 13)) := by
              rw [hp3] at hNL ⊢
              by_cases h : n ≤ 128
              · rw [if_pos h] at hE3 hNL ⊢
                refine ⟨hE3, .inl ⟨by omega, hE3.symm, ?_⟩⟩
                rw [← hNL]; simp
              · rw [if_neg h] at hE3 ⊢
                exact ⟨hE3, .inr ⟨by omega, hE3.symm⟩⟩
            obtain ⟨hpe, hcase⟩ := hcase
            obtain ⟨T2, hT2⟩ : ∃ T2 : ByteArray, T ++ (⟨#[13, 10]⟩ : ByteArray) = T2 := ⟨_, rfl⟩
            have hT2d : T2.data.toList = printL (List.replicate n (([98], [99]) : Fld)) := by rw [← hT2, append_data, HT.out]; rfl
            have hT2s : T2.size ≤ 2000 := by
              rw [← data_len, hT2d, printL_length, bcs_size]; omega
            have hT2b : T2.size ≤ 1000000 := by omega
            have Hcase := Lib.hid hcase
            have Hpe := Lib.hid hpe
            have HZ3 := Lib.hid hZ3
            have HNL := Lib.hid hNL
            have HT2d := Lib.hid hT2d
            replace PF := Lib.hid PF
            clear hcase hpe hZ3 hNL hT2d hp3 hE3 hsl8 hsm8 hlt hj
            go_upto_region 25 with (first
              | (go_at_call 26; (with_reducible refine PF.out.mono ?_); rintro e w9 ⟨v9, rfl, hrow9, hb9⟩; have B9 := Lib.hid (below_step Bq.out hb9); have D9 := Lib.hid (below_step Dq.out hb9); have hcv := Lib.run_convert_string_bytes (P := Tryd.prog) w9 9 22 5 T2 Tryd.underlying9 Tryd.underlying22 Tryd.underlying5; obtain ⟨C9, hC9, hs9⟩ := bytes_in w9 T2 hT2b; rw [hC9] at hcv; rw [HT2d.out] at hs9; have B10 := Lib.hid (below_step B9.out (below_bytesWorld w9 5 T2)); have D10 := Lib.hid (below_step D9.out (below_bytesWorld w9 5 T2)); have PA2 := fparse_any w9.heap.size 0 T2.size C9 (printL (List.replicate n (([98], [99]) : Fld))) _ (shaped_below Hsh.out B10.out) hs9 (by omega); rw [HZ3.out, Hpe.out, HNL.out] at PA2; replace PA2 := Lib.hid PA2; clear hs9 hC9 hrow9 hb9; generalize Lib.bytesWorld w9 5 T2 = w10 at *)
              | (go_at_call 14; (with_reducible refine PA2.out.mono ?_); rintro e w11 ⟨v11, rfl, hrow11, hb11⟩; have B11 := Lib.hid (below_step B10.out hb11); have D11 := Lib.hid (below_step D10.out hb11); obtain ⟨A11, C11, rfl, hsl11⟩ := own_slice hrow11; have PA3 := fparse_any w2.heap.size 0 m m (xs m) w11 (shaped_below Hsh.out B11.out) ((HV.out.below D11.out).more D11.out.size) (by omega); rw [Hx3.out] at PA3; replace PA3 := Lib.hid PA3; clear hrow11 hb11 hsl11 hcv)
              | (go_at_call 14; (with_reducible refine PA3.out.mono ?_); rintro e w12 ⟨v12, rfl, hrow12, hb12⟩; have B12 := Lib.hid (below_step B11.out hb12); clear hrow12 hb12))
            rcases Hcase.out with ⟨q1, rfl, rfl⟩ | ⟨q1, rfl⟩
            all_goals
              clear Hcase Hpe
              go_wp2
              go_ret
              exact ⟨rfl, B12.out⟩
end Go.Proofs.YtpmidmdodjgeeaaDoor
