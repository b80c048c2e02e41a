/- Walks of layer 3's document: what is wrong with fields; fields as a header; and the code's Right. Condition: at most 10^6 fields, texts within 10^9 octets. -/
import Derived.Test.YtniiadhhefgmcaaGreatDoorFq
namespace Go.Proofs.YtniiadhhefgmcaaGreatDoor
open Go.RowKit IH
set_option maxRecDepth 100000
theorem faultL_10 {L : List Fld} (h : L.any unfit = true) : faultL L = 10 := by
  have h' : L.any (fun f => !fit f) = true := h
  unfold faultL
  rw [if_pos h']
theorem faultL_more {L : List Fld} (h : L.any unfit = false) : faultL L = if 128 < L.length then 13 else if 65536 < sizeL L then 12 else 0 := by
  unfold faultL
  rw [if_neg (by rw [show L.any (fun f => !fit f) = L.any unfit from rfl, h]; simp)]
theorem fRight_any (A : Option Addr) (n c : Nat) (L : List Fld) (w : World) (hin : SliceIn w w.heap.size 2 A n c (fldsV L)) (hs : n ≤ 1000000) (hm : smallF 1000000000 L) :
    Calls Tryz.prog 106 #[.slice A n c] w fun e w' => e = .returned (.bool (faultL L == 0)) ∧ Below w.heap.size w w' := by
  have FA := fault_any A n c L w hin hs hm
  generalize faultL L = fl at *
  replace FA := Lib.hid FA
  clear hin hm
  go_enter Tryz.func106, Tryz.ntmps106
  go_wp2_with (go_at_call 108; refine FA.out.mono ?_; rintro e w1 ⟨rfl, hb1⟩)
  go_ret
  exact ⟨rfl, hb1⟩
set_option maxHeartbeats 4000000 in
theorem refFault_any (A : Option Addr) (n c : Nat) (L : List Fld) (w : World) (hin : SliceIn w w.heap.size 2 A n c (fldsV L)) (hs : n ≤ 1000000) (hm : smallF 1000000000 L) :
    Calls Tryz.prog 36 #[.slice A n c] w fun e w' => e = .returned (.int .i64 (faultL L)) ∧ Below w.heap.size w w' := by
  have hL := fld_count hin
  have Hin := Lib.hid hin
  have HL := Lib.hid hL
  clear hin hL
  go_enter Tryz.func36, Tryz.ntmps36
  go_wp2
  go_loopw [4] (fun i wr => ∃ k : Nat, k ≤ n ∧ i = .int .i64 k ∧ (L.take k).any unfit = false ∧ Below w.heap.size w wr) (fun i _ => n - (intOf i).toNat)
  case atStart => exact ⟨0, by omega, rfl, rfl, Below.refl _ _⟩
  case round =>
    obtain ⟨k, hk, rfl, hno, hbel⟩ := hrel
    have Hbel := Lib.hid hbel
    by_cases hlt : k < n
    · obtain ⟨f, hf⟩ : ∃ f, L[k]? = some f := ⟨_, List.getElem?_eq_getElem (by rw [HL.out]; omega)⟩
      obtain ⟨b, off, rfl, hb, c0, c1⟩ := fld_at (Hin.out.below hbel) hf
      obtain ⟨m1, m2⟩ := smallF_get hm hf
      have FT := fits_any f m1 m2
      cases hp : fit f
      · have hfin : faultL L = 10 := faultL_10 (List.any_eq_true.2 ⟨f, List.mem_of_getElem? hf, by simp [unfit, hp]⟩)
        rw [hp] at FT
        have HF := Lib.hid hfin
        replace FT := Lib.hid FT
        clear hfin hf hno hp m1 m2 hbel
        generalize (⟨f.1.toArray⟩ : ByteArray) = X at *
        generalize (⟨f.2.toArray⟩ : ByteArray) = Y at *
        go_wp2_with (go_at_call 85; refine (FT.out _).mono ?_; rintro e w2 ⟨rfl, hb2⟩)
        go_ret
        rw [HF.out]
        exact ⟨rfl, below_step Hbel.out hb2⟩
      · have hnx : (L.take (k + 1)).any unfit = false := any_snoc hf (by simp [unfit, hp]) hno
        rw [hp] at FT
        have HN := Lib.hid hnx
        replace FT := Lib.hid FT
        clear hnx hf hno hp m1 m2 hbel
        generalize (⟨f.1.toArray⟩ : ByteArray) = X at *
        generalize (⟨f.2.toArray⟩ : ByteArray) = Y at *
        go_wp2_with (go_at_call 85; refine (FT.out _).mono ?_; rintro e w2 ⟨rfl, hb2⟩)
        go_roundw
        case rel => exact ⟨k + 1, by omega, by go_num, HN.out, below_step Hbel.out hb2⟩
        case measure => simp [intOf]; omega
    · obtain rfl : k = n := by omega
      rw [List.take_of_length_le (by rw [HL.out]; omega)] at hno
      have hfm := faultL_more hno
      rw [HL.out] at hfm
      clear hno hlt hk
      by_cases h1 : 128 < k
      · rw [if_pos h1] at hfm
        have HF := Lib.hid hfm
        have h1I : (128 : Int) < (k : Int) := by omega
        clear hfm h1 hbel
        go_wp2
        go_ret
        rw [HF.out]
        exact ⟨rfl, Hbel.out⟩
      · rw [if_neg h1] at hfm
        have HF := Lib.hid hfm
        have h1I : (k : Int) ≤ (128 : Int) := by omega
        have h1N : k ≤ 128 := by omega
        obtain ⟨w0, rfl⟩ : ∃ w0 : World, w0 = wr := ⟨_, rfl⟩
        clear hfm h1 hbel
        go_wp2
        go_loopw [3, 5] (fun x i wr => ∃ j : Nat, j ≤ k ∧ i = .int .i64 j ∧ x = .int .i64 (sizeL (L.take j) : Nat) ∧ sizeL (L.take j) ≤ 65536 ∧ Below w.heap.size w wr) (fun _ i _ => k - (intOf i).toNat)
        case atStart => exact ⟨0, by omega, rfl, rfl, by simp [sizeL], Hbel.out⟩
        case round =>
          clear Hbel
          obtain ⟨j, hj, rfl, rfl, hz, hbel⟩ := hrel
          have Hbel := Lib.hid hbel
          by_cases hlt : j < k
          · obtain ⟨f, hf⟩ : ∃ f, L[j]? = some f := ⟨_, List.getElem?_eq_getElem (by rw [HL.out]; omega)⟩
            obtain ⟨b, off, rfl, hb, c0, c1⟩ := fld_at Hin.out hf
            obtain ⟨m1, m2⟩ := smallF_get hm hf
            have hsn := sizeL_snoc L j f hf
            have hmo := sizeL_mono L (j + 1)
            have z1 : (⟨f.1.toArray⟩ : ByteArray).size = f.1.length := size_mk _
            have z2 : (⟨f.2.toArray⟩ : ByteArray).size = f.2.length := size_mk _
            obtain ⟨X, hX⟩ : ∃ X : ByteArray, (⟨f.1.toArray⟩ : ByteArray) = X := ⟨_, rfl⟩
            obtain ⟨Y, hY⟩ : ∃ Y : ByteArray, (⟨f.2.toArray⟩ : ByteArray) = Y := ⟨_, rfl⟩
            rw [hX] at c0 z1
            rw [hY] at c1 z2
            obtain ⟨S0, hS0⟩ : ∃ S0, sizeL (L.take j) = S0 := ⟨_, rfl⟩
            rw [hS0] at hsn hz
            obtain ⟨S1, hS1⟩ : ∃ S1, sizeL (L.take (j + 1)) = S1 := ⟨_, rfl⟩
            rw [hS1] at hsn hmo
            rw [hS0]
            obtain ⟨tA, hA⟩ : ∃ t : Int, (S0 : Int) + (X.size : Int) = t := ⟨_, rfl⟩
            obtain ⟨tB, hB⟩ : ∃ t : Int, tA + (Y.size : Int) = t := ⟨_, rfl⟩
            have hC : tB + 4 = (S1 : Int) := by omega
            have wA : IntKind.i64.wrap tA = tA := IntWalk.i64_in _ ⟨by omega, by omega⟩
            have wB : IntKind.i64.wrap tB = tB := IntWalk.i64_in _ ⟨by omega, by omega⟩
            have wC : IntKind.i64.wrap (S1 : Int) = (S1 : Int) := IntWalk.i64_in _ ⟨by omega, by omega⟩
            have i1 : (j : Int) < (k : Int) := by omega
            have HS1 := Lib.hid hS1
            have Hmo := Lib.hid hmo
            clear hsn hmo z1 z2 hX hY hS0 hS1 hf m1 m2 hz
            go_upto_region 12 with fail
            refine wp_region_tree (fun W => Below w.heap.size w W) (.take 0 (.take 1 (.take 2 (.take 3 (.take 4 (.take 5 (.take 6 (.take 7 (.take 8 (.take 9 (.take 10 (.take 11 (.take 12 (.take 13 (.take 14 (.take 15 (.take 16 (.done)))))))))))))))))) (by kernel_rfl) (by kernel_rfl) (of_decide_eq_true (by kernel_rfl)) rfl (by kernel_rfl) (below_drewN Hbel.out 1) ?_
            intro w1 hH
            iterate 17
              refine tree_take (v := ?_) rfl (by rfl) ?_ ?_
              rotate_left
              · intro w2 hSw
                have e0 := (hSw.cell (p := ⟨b, off + j * 2, none⟩) hb).trans c0
                have e1 := (hSw.cell (p := ⟨b, off + j * 2 + 1, none⟩) hb).trans c1
                clear hSw
                go_simp
                try with_reducible rfl
              try simp only [Act.put, List.setIfInBounds_toArray, List.set_cons_zero, List.set_cons_succ]
            refine tree_done ?_
            have B9 := Lib.hid hH.out
            clear hH
            by_cases h6 : 65536 < S1
            · have hfin := HF.out
              rw [if_pos (by have := Hmo.out; omega)] at hfin
              have HF2 := Lib.hid hfin
              have h6I : (65536 : Int) < (S1 : Int) := by omega
              clear hfin h6
              go_wp2
              go_ret
              rw [HF2.out]
              exact ⟨rfl, B9.out⟩
            · have h6I : (S1 : Int) ≤ (65536 : Int) := by omega
              go_wp2
              go_roundw
              case rel => exact ⟨j + 1, by omega, by go_num, by rw [HS1.out], by rw [HS1.out]; omega, B9.out⟩
              case measure => simp [intOf]; omega
          · obtain rfl : k = j := by omega
            rw [List.take_of_length_le (by rw [HL.out]; omega)] at hz
            have hfin := HF.out
            rw [if_neg (by omega)] at hfin
            have HF2 := Lib.hid hfin
            clear hfin
            go_wp2
            go_ret
            rw [HF2.out]
            exact ⟨rfl, Hbel.out⟩
set_option maxHeartbeats 4000000 in
theorem refPrint3_any (A : Option Addr) (n c : Nat) (L : List Fld) (w : World) (hin : SliceIn w w.heap.size 2 A n c (fldsV L)) (hz : sizeL L ≤ 1000000000) :
    Calls Tryz.prog 39 #[.slice A n c] w fun e w' => e = .returned (.string ⟨(printL L).toArray⟩) ∧ Below w.heap.size w w' := by
  have hL := fld_count hin
  have hnb : n ≤ 1000000000 := by
    have : L.length ≤ sizeL L := by
      unfold sizeL
      clear hz hL hin
      induction L with
      | nil => simp
      | cons f fs ih => simp; omega
    omega
  have Hin := Lib.hid hin
  have HL := Lib.hid hL
  have Hz := Lib.hid hz
  clear hin hL hz
  go_enter Tryz.func39, Tryz.ntmps39
  go_wp2
  go_loopw [3, 4] (fun s i wr => ∃ (k : Nat) (T : ByteArray), k ≤ n ∧ i = .int .i64 k ∧ s = .string T ∧ T.data.toList = (L.take k).flatMap line1 ∧ Below w.heap.size w wr) (fun _ i _ => n - (intOf i).toNat)
  case atStart => exact ⟨0, ⟨#[]⟩, by omega, rfl, rfl, rfl, Below.refl _ _⟩
  case round =>
    obtain ⟨k, T, hk, rfl, rfl, hT, hbel⟩ := hrel
    have Hbel := Lib.hid hbel
    have HT := Lib.hid hT
    have hlen := lines_length (L.take k)
    have hmo := sizeL_mono L k
    have hzz := Hz.out
    have hTs : T.size = ((L.take k).flatMap line1).length := by rw [← data_len, hT]
    have hTb : T.size ≤ 1000000000 := by omega
    clear hlen hmo hzz hTs hT hbel
    by_cases hlt : k < n
    · obtain ⟨f, hf⟩ : ∃ f, L[k]? = some f := ⟨_, List.getElem?_eq_getElem (by rw [HL.out]; omega)⟩
      obtain ⟨b, off, rfl, hb, c0, c1⟩ := fld_at Hin.out hf
      have hsn := lines_snoc L k f hf
      have hsz := sizeL_snoc L k f hf
      have hmo := sizeL_mono L (k + 1)
      have hzz := Hz.out
      have z1 : (⟨f.1.toArray⟩ : ByteArray).size = f.1.length := size_mk _
      have z2 : (⟨f.2.toArray⟩ : ByteArray).size = f.2.length := size_mk _
      obtain ⟨X, hX⟩ : ∃ X : ByteArray, (⟨f.1.toArray⟩ : ByteArray) = X := ⟨_, rfl⟩
      obtain ⟨Y, hY⟩ : ∃ Y : ByteArray, (⟨f.2.toArray⟩ : ByteArray) = Y := ⟨_, rfl⟩
      have hXd : X.data.toList = f.1 := by rw [← hX]
      have hYd : Y.data.toList = f.2 := by rw [← hY]
      rw [hX] at c0 z1
      rw [hY] at c1 z2
      have hXs : X.size ≤ 1000000000 := by omega
      have hYs : Y.size ≤ 1000000000 := by omega
      have hnx : (T ++ X ++ ⟨#[58, 32]⟩ ++ Y ++ ⟨#[13, 10]⟩ : ByteArray).data.toList = (L.take (k + 1)).flatMap line1 := by
        rw [append_data, append_data, append_data, append_data, HT.out, hsn, hXd, hYd]
        simp
      have Hnx := Lib.hid hnx
      clear hsn hsz hmo hzz z1 z2 hX hY hXd hYd hnx hf
      go_upto_region 5 with fail
      refine wp_region_tree (fun W => Below w.heap.size w W) (.take 0 (.take 1 (.take 2 (.take 3 (.take 4 (.take 5 (.take 6 (.take 7 (.take 8 (.take 9 (.take 10 (.take 11 (.take 12 (.take 13 (.take 14 (.take 15 (.done))))))))))))))))) (by kernel_rfl) (by kernel_rfl) (of_decide_eq_true (by kernel_rfl)) rfl (by kernel_rfl) (below_drewN Hbel.out 1) ?_
      intro w1 hH
      iterate 6
        refine tree_take (v := ?_) rfl (by rfl) ?_ ?_
        rotate_left
        · intro w2 hSw
          have e0 := (hSw.cell (p := ⟨b, off + k * 2, none⟩) hb).trans c0
          have e1 := (hSw.cell (p := ⟨b, off + k * 2 + 1, none⟩) hb).trans c1
          clear hSw
          go_simp
          try with_reducible rfl
        try simp only [Act.put, List.setIfInBounds_toArray, List.set_cons_zero, List.set_cons_succ]
      iterate 2
        refine tree_add rfl (by rfl) _ _ _ _ rfl _ _ (by rfl) (by rfl) (by first | omega | (simp [mk_size]; omega)) ?_
        try simp only [Act.put, List.setIfInBounds_toArray, List.set_cons_zero, List.set_cons_succ]
      iterate 5
        refine tree_take (v := ?_) rfl (by rfl) ?_ ?_
        rotate_left
        · intro w2 hSw
          have e0 := (hSw.cell (p := ⟨b, off + k * 2, none⟩) hb).trans c0
          have e1 := (hSw.cell (p := ⟨b, off + k * 2 + 1, none⟩) hb).trans c1
          clear hSw
          go_simp
          try with_reducible rfl
        try simp only [Act.put, List.setIfInBounds_toArray, List.set_cons_zero, List.set_cons_succ]
      iterate 2
        refine tree_add rfl (by rfl) _ _ _ _ rfl _ _ (by rfl) (by rfl) (by first | omega | (simp [mk_size]; omega)) ?_
        try simp only [Act.put, List.setIfInBounds_toArray, List.set_cons_zero, List.set_cons_succ]
      iterate 1
        refine tree_take (v := ?_) rfl (by rfl) ?_ ?_
        rotate_left
        · intro w2 hSw
          have e0 := (hSw.cell (p := ⟨b, off + k * 2, none⟩) hb).trans c0
          have e1 := (hSw.cell (p := ⟨b, off + k * 2 + 1, none⟩) hb).trans c1
          clear hSw
          go_simp
          try with_reducible rfl
        try simp only [Act.put, List.setIfInBounds_toArray, List.set_cons_zero, List.set_cons_succ]
      refine tree_done ?_
      have B9 := Lib.hid hH.out
      clear hH
      go_wp2
      go_roundw
      case rel => exact ⟨k + 1, T ++ X ++ ⟨#[58, 32]⟩ ++ Y ++ ⟨#[13, 10]⟩, by omega, by go_num, rfl, Hnx.out, B9.out⟩
      case measure => simp [intOf]; omega
    · obtain rfl : k = n := by omega
      have hfin : (T ++ (⟨#[13, 10]⟩ : ByteArray)).data.toList = printL L := by
        rw [append_data, HT.out, List.take_of_length_le (by rw [HL.out]; omega)]; rfl
      have HF := Lib.hid hfin
      clear hfin
      go_wp2
      go_ret
      exact ⟨ret_str (bytes_eq HF.out), Hbel.out⟩
end Go.Proofs.YtniiadhhefgmcaaGreatDoor
