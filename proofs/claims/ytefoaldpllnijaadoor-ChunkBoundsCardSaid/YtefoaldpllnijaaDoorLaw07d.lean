/- Layer 7's laws: ChunkBounds, walked. Condition: the world's shape. -/
import Derived.Test.YtefoaldpllnijaaDoorLaw07a
import Derived.Test.YtefoaldpllnijaaDoorChk6
namespace Go.Proofs.YtefoaldpllnijaaDoor
open Go.RowKit IH
set_option maxRecDepth 100000
theorem encL_long (ps : List (List UInt8)) (h : ∀ p ∈ ps, p.length ≤ 10000000) : (encL ps).length ≤ IH.total ps + 11 * ps.length + 5 := by
  unfold encL
  have := enc_len ps h
  rw [List.length_append]
  simp only [List.length_cons, List.length_nil]
  omega
theorem zeros_made (m : Nat) : bytesV (List.replicate m 0) = (madeCells (Value.int .u8 0).cells (m * 1)).toList := by
  rw [Nat.mul_one]
  have : (Value.int .u8 0).cells = #[.int .u8 0] := rfl
  rw [this, toList_madeCells_one]
  unfold bytesV
  simp [byteV]
set_option maxHeartbeats 8000000 in
theorem cbounds_walk (w : World) (hsh : w.ShapedOpen Tryd.prog) (a : Int) (_wfa : (Lit.int .i64 a).wf = true) (b : Int) (_wfb : (Lit.int .i64 b).wf = true) :
    Calls Tryd.prog 9 #[.int .i64 a, .int .i64 b] w fun e w' => e = .returned (.bool true) ∧ Below w.heap.size w w' := by
  have AW := Lib.hid (awake07_any w)
  have Hsh := Lib.hid hsh
  clear hsh
  have a1 : -5 < Int.tmod a 5 := Int.lt_tmod_of_pos a (by omega)
  have a2 : Int.tmod a 5 < 5 := Int.tmod_lt_of_pos a (by omega)
  have b1 : -8 < Int.tmod b 8 := Int.lt_tmod_of_pos b (by omega)
  have b2 : Int.tmod b 8 < 8 := Int.tmod_lt_of_pos b (by omega)
  go_enter Tryd.func9, Tryd.ntmps9
  go_upto_region 4 with (go_at_call 21; refine AW.out.mono ?_; rintro e w2 ⟨rfl, hb2⟩; have B2 := Lib.hid hb2; clear hb2)
  obtain ⟨k0, hk⟩ : ∃ k, (Int.tmod a 5 + 5) % 5 = k := ⟨_, rfl⟩
  obtain ⟨n0, hn⟩ : ∃ k, 125 + Int.tmod b 8 % 8 = k := ⟨_, rfl⟩
  have k1 : 0 ≤ k0 := by omega
  have k2 : k0 ≤ 4 := by omega
  have n1 : 125 ≤ n0 := by omega
  have n2 : n0 ≤ 132 := by omega
  rw [hk, hn]
  obtain ⟨J, rfl⟩ : ∃ J : Nat, k0 = J := ⟨k0.toNat, by omega⟩
  obtain ⟨N, rfl⟩ : ∃ N : Nat, n0 = N := ⟨n0.toNat, by omega⟩
  obtain ⟨m2, hm2⟩ : ∃ m2 : Nat, min J 2 = m2 := ⟨_, rfl⟩
  have hm2I : min (J : Int) 2 = (m2 : Int) := by omega
  obtain ⟨A1, hA1⟩ : ∃ A1 : Nat, 524286 + m2 = A1 := ⟨_, rfl⟩
  have hA1I : (524286 : Int) + (m2 : Int) = (A1 : Int) := by omega
  have hA1b : A1 ≤ 524288 := by omega
  obtain ⟨C1, hC1⟩ : ∃ C1 : Nat, J - 2 = C1 := ⟨_, rfl⟩
  have hC1I : max 0 ((J : Int) - 2) = (C1 : Int) := by omega
  have hC1b : C1 ≤ 524288 := by omega
  obtain ⟨M, hM⟩ : ∃ M : Nat, 250 + J = M := ⟨_, rfl⟩
  have hMI : (250 : Int) + (J : Int) = (M : Int) := by omega
  have hMb : M ≤ 254 := by omega
  have hKb : J ≤ 4 := by omega
  have hNb : N ≤ 132 := by omega
  have hNa : 125 ≤ N := by omega
  obtain ⟨H, hH0⟩ : ∃ H, List.replicate 524288 (0 : UInt8) = H := ⟨_, rfl⟩
  have hHl : H.length = 524288 := by rw [← hH0, List.length_replicate]
  have hzm := zeros_made 524288
  rw [hH0] at hzm
  have HZM := Lib.hid hzm
  have hdh := decode_halves H hHl J hKb
  rw [hm2, hA1, hC1] at hdh
  obtain ⟨E, hE⟩ : ∃ E, encL [H, H.take A1, H.take C1] = E := ⟨_, rfl⟩
  have hlA : (H.take A1).length = A1 := by rw [List.length_take, hHl]; omega
  have hlC : (H.take C1).length = C1 := by rw [List.length_take, hHl]; omega
  have hTot : IH.total [H, H.take A1, H.take C1] ≤ 1572864 := by simp only [IH.total, List.map_cons, List.map_nil, List.sum_cons, List.sum_nil, hHl, hlA, hlC]; omega
  have hEl := encL_long [H, H.take A1, H.take C1] (by
    intro p hp
    simp only [List.mem_cons, List.not_mem_nil, or_false] at hp
    rcases hp with rfl | rfl | rfl
    · omega
    · omega
    · omega)
  have hE0 : 0 < (encL [H, H.take A1, H.take C1]).length := by unfold encL; rw [List.length_append]; simp only [List.length_cons, List.length_nil]; omega
  rw [hE] at hdh hEl hE0
  simp only [List.length_cons, List.length_nil] at hEl
  have HTot := Lib.hid (show IH.total [H, H.take A1, H.take C1] ≤ 10000000 by omega)
  obtain ⟨e1, he1⟩ : ∃ e : Int, (if J ≤ 2 then (0 : Int) else 12) = e := ⟨_, rfl⟩
  rw [he1] at hdh
  have HE1 := Lib.hid he1
  have hx2 := decode_ext M
  obtain ⟨e2, he2⟩ : ∃ e : Int, (if M ≤ 252 then (0 : Int) else 12) = e := ⟨_, rfl⟩
  rw [he2] at hx2
  have HE2 : Hid ((if J ≤ 2 then (0 : Int) else 12) = e2) := Lib.hid (by rw [← he2]; congr 1; rw [eq_iff_iff]; omega)
  have hx3 := decode_abs N
  obtain ⟨e3, he3⟩ : ∃ e : Int, (if N ≤ 128 then (0 : Int) else 13) = e := ⟨_, rfl⟩
  rw [he3] at hx3
  have HE3 := Lib.hid he3
  have HX2 := Lib.hid hx2
  have HX3 := Lib.hid hx3
  have DE := fun (g cap : Nat) (W : World) (hB : Below w.heap.size w W) (hg : g < W.heap.size) (hi : SliceIn W W.heap.size 1 (some ⟨g, 0, none⟩) E.length cap (bytesV E)) => decode_any g 0 E.length cap E W (shaped_below Hsh.out hB) hi hg (by omega)
  rw [hdh] at DE
  obtain ⟨l1, hl1⟩ : ∃ l1, E.length = l1 := ⟨_, rfl⟩
  have HEE := Lib.hid hE
  rw [hl1] at DE hE0
  have HL1 := Lib.hid hl1
  have HE0 := Lib.hid hE0
  replace DE := Lib.hid DE
  have HHl := Lib.hid hHl
  have HlA := Lib.hid hlA
  have HlC := Lib.hid hlC
  clear hk hn hm2 hA1 hC1 hM hH0 hzm hdh hEl hTot he1 he2 he3 hx2 hx3 hE hl1 hE0 hHl hlA hlC k1 k2 n1 n2 a1 a2 b1 b2
  obtain ⟨i0, hi, hz0, hz1, hz2⟩ := info_parts u8_ty.hi
  have hB2 := B2.out.size
  obtain ⟨g, hg⟩ : ∃ g, w2.heap.size = g := ⟨_, rfl⟩
  go_upto_region 5 with (at_make; refine wpList_make_full _ rfl _ _ 22 rfl w.heap.size 5 i0 (.int .u8 0) 1 Tryd.underlying22 hi hz0 hz1 .i64 .i64 _ _ 524288 rfl rfl rfl rfl (by rw [hz2]; omega) (by simp only [maxLen]; omega) hB2 ?_; intro w3 hown3 hgr3; rw [← HZM.out] at hown3; rw [hg] at hown3; have R3 := Lib.hid (SliceIn.of_own hown3); have B3 := Lib.hid (B2.out.grown hgr3 hB2 (fun q hq => by cases hq)); clear hown3 hgr3)
  clear hi hz0 hz1 hz2 hg HZM
  have S1 : Hid (SliceIn w3 w3.heap.size 1 (some ⟨g, 0, none⟩) 524288 524288 (bytesV H)) := R3
  have S2 : Hid (SliceIn w3 w3.heap.size 1 (some ⟨g, 0, none⟩) A1 524288 (bytesV (H.take A1))) := Lib.hid (by
    have := R3.out.sub (a := 0) (b := A1) (by omega) hA1b (some ⟨g, 0, none⟩) (fun _ => by simp [add_plain])
    simp only [Nat.sub_zero, Nat.mul_one, List.drop_zero] at this
    rw [show (bytesV H).take A1 = bytesV (H.take A1) by simp [bytesV, List.map_take]] at this
    exact this)
  have S3 : Hid (SliceIn w3 w3.heap.size 1 (some ⟨g, 0, none⟩) C1 524288 (bytesV (H.take C1))) := Lib.hid (by
    have := R3.out.sub (a := 0) (b := C1) (by omega) hC1b (some ⟨g, 0, none⟩) (fun _ => by simp [add_plain])
    simp only [Nat.sub_zero, Nat.mul_one, List.drop_zero] at this
    rw [show (bytesV H).take C1 = bytesV (H.take C1) by simp [bytesV, List.map_take]] at this
    exact this)
  have hA1c : (A1 : Int) ≤ 524288 := by omega
  have hC1c : (C1 : Int) ≤ 524288 := by omega
  have hw1 : IntKind.i64.wrap 524286 = 524286 := IntWalk.i64_in _ ⟨by omega, by omega⟩
  have hw2 : IntKind.i64.wrap (524286 + (m2 : Int)) = (A1 : Int) := by rw [IntWalk.i64_in _ ⟨by omega, by omega⟩]; exact hA1I
  have hw3 : IntKind.i64.wrap ((J : Int) - 2) = (J : Int) - 2 := IntWalk.i64_in _ ⟨by omega, by omega⟩
  have hA10 : (0 : Int) ≤ (A1 : Int) := by omega
  have hC10 : (0 : Int) ≤ (C1 : Int) := by omega
  have HMI := Lib.hid hMI
  clear hA1I hMI
  refine wp_region_plan (fun W => Below w3.heap.size w3 W) [(0, true), (1, true), (2, true), (3, true), (4, true), (5, true), (6, true), (7, true), (8, true), (9, true), (10, true), (11, true), (12, true), (13, true), (14, false), (15, false), (16, false), (17, true), (18, true), (19, true), (20, true), (21, true), (22, true), (23, true)] (by kernel_rfl) (by kernel_rfl) rfl (by kernel_rfl) (below_drewN (Below.refl _ _) 1) ?_
  intro w1 hH
  iterate 14
    refine plan_take (v := ?_) rfl (by rfl) ?_ ?_
    rotate_left
    · intro w2 hSw
      clear hSw
      go_simp
      try with_reducible rfl
    try simp only [Act.put, List.setIfInBounds_toArray, List.set_cons_zero, List.set_cons_succ]
  refine plan_move rfl (by rfl) (fun K hK => ?_)
  go_simp
  refine hK.out _ _ (hH.out.alloc hH.out.size _) ?_
  have FB := Lib.hid (row_at hH 22 [.slice (some ⟨g, 0, none⟩) 524288 524288, .slice (some ⟨g, 0, none⟩) A1 524288, .slice (some ⟨g, 0, none⟩) C1 524288])
  clear hH hK
  intro hH
  try simp only [Act.put, List.setIfInBounds_toArray, List.set_cons_zero, List.set_cons_succ]
  refine plan_move rfl (by rfl) (fun K hK => ?_)
  go_simp
  (with_reducible refine (enc_any _ 3 3 [H, H.take A1, H.take C1] _ _ (FB.out.slice (size := 1) (n := 3) (c := 3) rfl (Nat.le_refl _) (by simp [maxLen])) (pieces3 ((S1.out.below hH.out).more hH.out.size) ((S2.out.below hH.out).more hH.out.size) ((S3.out.below hH.out).more hH.out.size)) (by omega) HTot.out).mono ?_)
  rw [HEE.out]
  rintro e w5 ⟨v5, rfl, ho5, hb5⟩
  rw [HL1.out] at ho5
  obtain ⟨g5, c5, rfl, _, hs5⟩ := own_some ho5 HE0.out
  have G5 := Lib.hid (ho5.lt g5 rfl).2
  refine hK.out _ _ (below_step hH.out hb5) ?_
  have S5 := Lib.hid hs5
  clear hH hK hb5 ho5 hs5 FB
  intro hH
  try simp only [Act.put, List.setIfInBounds_toArray, List.set_cons_zero, List.set_cons_succ]
  refine plan_move rfl (by rfl) (fun K hK => ?_)
  go_simp
  (with_reducible refine (DE.out g5 c5 _ (B3.out.trans (hH.out.mono B3.out.size)) G5.out S5.out).mono ?_)
  rintro e w6 ⟨v6, rfl, ho6, hb6⟩
  refine hK.out _ _ (below_step hH.out hb6) ?_
  clear hH hK hb6 ho6
  intro hH
  try simp only [Act.put, List.setIfInBounds_toArray, List.set_cons_zero, List.set_cons_succ]
  iterate 7
    refine plan_take (v := ?_) rfl (by rfl) ?_ ?_
    rotate_left
    · intro w2 hSw
      clear hSw
      go_simp
      try with_reducible rfl
    try simp only [Act.put, List.setIfInBounds_toArray, List.set_cons_zero, List.set_cons_succ]
  refine plan_done ?_
  have hMI := HMI.out
  have B6 := Lib.hid (B3.out.trans (hH.out.mono B3.out.size))
  clear hH R3 B3 S1 S2 S3 hm2I hC1I hw1 hw2 hw3 hA10 hC10 hA1c hC1c hA1b hC1b DE HTot HMI
  go_wp2_with fail
  go_loop [11, 12] (fun s i => ∃ (j : Nat) (T : ByteArray), s = .string T ∧ i = .int .i64 j ∧ j ≤ M ∧ T.data.toList = xs j) (fun _ i => M - (intOf i).toNat)
  case atStart => exact ⟨0, ⟨#[]⟩, rfl, rfl, by omega, rfl⟩
  case round =>
    obtain ⟨j, T, rfl, rfl, hj, hT⟩ := hrel
    have hTs : T.size = j := by rw [← data_len, hT, xs_length]
    by_cases hlt : j < M
    · have HT2 : Hid ((T ++ (⟨#[120]⟩ : ByteArray)).data.toList = xs (j + 1)) := Lib.hid (by
        rw [append_data, hT]
        unfold xs
        rw [List.replicate_succ'])
      have hTb : T.size ≤ 254 := by omega
      have jI : (j : Int) < (M : Int) := by omega
      clear hT hTs
      go_wp2
      go_round
      case rel => exact ⟨j + 1, _, rfl, by go_num, by omega, HT2.out⟩
      case measure => simp [intOf]; omega
    · obtain rfl : j = M := by omega
      have hTb : T.size ≤ 254 := by omega
      have hSz : ((⟨#[49, 59]⟩ : ByteArray) ++ T ++ (⟨#[13, 10, 97, 13, 10, 48, 13, 10, 13, 10]⟩ : ByteArray)).size = T.size + 12 := by rw [← data_len, append_data, append_data, List.length_append, List.length_append, data_len T]; show 2 + T.size + 10 = T.size + 12; omega
      have hSd : ((⟨#[49, 59]⟩ : ByteArray) ++ T ++ (⟨#[13, 10, 97, 13, 10, 48, 13, 10, 13, 10]⟩ : ByteArray)).data.toList = extB7 j := by rw [append_data, append_data, hT]; unfold extB7; simp
      have hAs : ((⟨#[49, 59]⟩ : ByteArray) ++ T).size ≤ 256 := by rw [← data_len, append_data, List.length_append, data_len T]; show 2 + T.size ≤ 256; omega
      have hcv := Lib.run_convert_string_bytes (P := Tryd.prog) w6 9 22 5 ((⟨#[49, 59]⟩ : ByteArray) ++ T ++ (⟨#[13, 10, 97, 13, 10, 48, 13, 10, 13, 10]⟩ : ByteArray)) Tryd.underlying9 Tryd.underlying22 Tryd.underlying5
      have hrow := RowAt.bytes w6 5 ((⟨#[49, 59]⟩ : ByteArray) ++ T ++ (⟨#[13, 10, 97, 13, 10, 48, 13, 10, 13, 10]⟩ : ByteArray))
      have hbel := below_bytesWorld w6 5 ((⟨#[49, 59]⟩ : ByteArray) ++ T ++ (⟨#[13, 10, 97, 13, 10, 48, 13, 10, 13, 10]⟩ : ByteArray))
      have hcap := Nat.le_trans (Nat.le_refl _) (grownCap_le_maxLen w6 ((⟨#[49, 59]⟩ : ByteArray) ++ T ++ (⟨#[13, 10, 97, 13, 10, 48, 13, 10, 13, 10]⟩ : ByteArray)).size 0 5 (by simp only [maxLen]; omega))
      have hcap2 := grownCap_ge w6 ((⟨#[49, 59]⟩ : ByteArray) ++ T ++ (⟨#[13, 10, 97, 13, 10, 48, 13, 10, 13, 10]⟩ : ByteArray)).size 0 5
      generalize Lib.bytesWorld w6 5 ((⟨#[49, 59]⟩ : ByteArray) ++ T ++ (⟨#[13, 10, 97, 13, 10, 48, 13, 10, 13, 10]⟩ : ByteArray)) = W at *
      generalize grownCap w6 ((⟨#[49, 59]⟩ : ByteArray) ++ T ++ (⟨#[13, 10, 97, 13, 10, 48, 13, 10, 13, 10]⟩ : ByteArray)).size 0 5 = C at *
      rw [hSd] at hrow
      rw [hSz] at hcv hcap2
      have hWg := hrow.lt
      have hsl := hrow.slice (size := 1) (n := T.size + 12) (c := C) (by rw [bytesV_length, ← hSd, data_len, hSz, Nat.mul_one]) hcap2 hcap
      have D7 := decode_any w6.heap.size 0 (T.size + 12) C (extB7 j) W (shaped_below Hsh.out (below_step B6.out hbel)) hsl hWg (by omega)
      rw [HX2.out] at D7
      have HD7 := Lib.hid D7
      have B7 := Lib.hid (below_step B6.out hbel)
      clear hsl hWg hrow hSd hcap hcap2 hT hTs D7 hbel hlt
      go_wp2_with (go_at_call 25; (with_reducible refine HD7.out.mono ?_); rintro e' w8 ⟨v8, rfl, _, hb8⟩; have B8 := Lib.hid (below_step B7.out hb8); clear hb8)
      go_loop [16, 17] (fun s i => ∃ (j : Nat) (T : ByteArray), s = .string T ∧ i = .int .i64 j ∧ j ≤ N ∧ T.data.toList = [48, 13, 10] ++ abs6 j []) (fun _ i => N - (intOf i).toNat)
      case atStart => exact ⟨0, ⟨#[48, 13, 10]⟩, rfl, rfl, by omega, rfl⟩
      case round =>
        clear hcv hSz hAs hTb HD7 B7 B6
        obtain ⟨q, Z, rfl, rfl, hq, hZ⟩ := hrel
        have hZs : Z.size = 6 * q + 3 := by rw [← data_len, hZ, List.length_append, abs6_len]; simp; omega
        by_cases hlt : q < N
        · have HZ2 : Hid ((Z ++ (⟨#[97, 58, 32, 98, 13, 10]⟩ : ByteArray)).data.toList = [48, 13, 10] ++ abs6 (q + 1) []) := Lib.hid (by
            rw [append_data, hZ, abs6_snoc, ← abs6_app q (97 :: 58 :: 32 :: 98 :: 13 :: 10 :: []), List.append_assoc])
          have hZb : Z.size ≤ 800 := by omega
          have qI : (q : Int) < (N : Int) := by omega
          clear hZ hZs
          go_wp2
          go_round
          case rel => exact ⟨q + 1, _, rfl, by go_num, by omega, HZ2.out⟩
          case measure => simp [intOf]; omega
        · obtain rfl : q = N := by omega
          have hZb : Z.size ≤ 800 := by omega
          have hSz : (Z ++ (⟨#[13, 10]⟩ : ByteArray)).size = Z.size + 2 := by rw [← data_len, append_data, List.length_append, data_len]; rfl
          have hSd : (Z ++ (⟨#[13, 10]⟩ : ByteArray)).data.toList = [48, 13, 10] ++ abs6 q [13, 10] := by rw [append_data, hZ, List.append_assoc, abs6_app]
          have hcv := Lib.run_convert_string_bytes (P := Tryd.prog) w8 9 22 5 (Z ++ (⟨#[13, 10]⟩ : ByteArray)) Tryd.underlying9 Tryd.underlying22 Tryd.underlying5
          have hrow := RowAt.bytes w8 5 (Z ++ (⟨#[13, 10]⟩ : ByteArray))
          have hbel := below_bytesWorld w8 5 (Z ++ (⟨#[13, 10]⟩ : ByteArray))
          have hcap := Nat.le_trans (Nat.le_refl _) (grownCap_le_maxLen w8 (Z ++ (⟨#[13, 10]⟩ : ByteArray)).size 0 5 (by simp only [maxLen]; omega))
          have hcap2 := grownCap_ge w8 (Z ++ (⟨#[13, 10]⟩ : ByteArray)).size 0 5
          generalize Lib.bytesWorld w8 5 (Z ++ (⟨#[13, 10]⟩ : ByteArray)) = W2 at *
          generalize grownCap w8 (Z ++ (⟨#[13, 10]⟩ : ByteArray)).size 0 5 = C2 at *
          rw [hSd] at hrow
          rw [hSz] at hcv hcap2
          have hWg := hrow.lt
          have hsl := hrow.slice (size := 1) (n := Z.size + 2) (c := C2) (by rw [bytesV_length, ← hSd, data_len, hSz, Nat.mul_one]) hcap2 hcap
          have D9 := decode_any w8.heap.size 0 (Z.size + 2) C2 ([48, 13, 10] ++ abs6 q [13, 10]) W2 (shaped_below Hsh.out (below_step B8.out hbel)) hsl hWg (by omega)
          rw [HX3.out] at D9
          have HD9 := Lib.hid D9
          have B9 := Lib.hid (below_step B8.out hbel)
          clear hsl hWg hrow hSd hcap hcap2 hZ hZs D9 hbel hlt HX2 HX3
          go_upto_region 18 with (go_at_call 25; (with_reducible refine HD9.out.mono ?_); rintro e' w10 ⟨v10, rfl, _, hb10⟩; have B10 := Lib.hid (below_step B9.out hb10); clear hb10)
          clear hcv hSz HD9
          by_cases hJ2 : J ≤ 2
          · have q1 := HE1.out
            have q2 := HE2.out
            rw [if_pos hJ2] at q1 q2
            subst q1 q2
            have jI2 : (J : Int) ≤ 2 := by omega
            by_cases hN : q ≤ 128
            · have q3 := HE3.out
              rw [if_pos hN] at q3
              subst q3
              have nI : (q : Int) ≤ 128 := by omega
              clear HE1 HE2 HE3 hJ2 hN
              go_wp2
              go_ret
              exact ⟨ret_bool (by simp), B10.out⟩
            · have q3 := HE3.out
              rw [if_neg hN] at q3
              subst q3
              have nI : ¬ (q : Int) ≤ 128 := by omega
              clear HE1 HE2 HE3 hJ2 hN
              go_wp2
              go_ret
              exact ⟨ret_bool (by simp; try omega), B10.out⟩
          · have q1 := HE1.out
            have q2 := HE2.out
            rw [if_neg hJ2] at q1 q2
            subst q1 q2
            have jI2 : ¬ (J : Int) ≤ 2 := by omega
            by_cases hN : q ≤ 128
            · have q3 := HE3.out
              rw [if_pos hN] at q3
              subst q3
              have nI : (q : Int) ≤ 128 := by omega
              clear HE1 HE2 HE3 hJ2 hN
              go_wp2
              go_ret
              exact ⟨ret_bool (by simp), B10.out⟩
            · have q3 := HE3.out
              rw [if_neg hN] at q3
              subst q3
              have nI : ¬ (q : Int) ≤ 128 := by omega
              clear HE1 HE2 HE3 hJ2 hN
              go_wp2
              go_ret
              exact ⟨ret_bool (by simp; try omega), B10.out⟩
end Go.Proofs.YtefoaldpllnijaaDoor
