/- Layer 28's laws: AccessBounds, walked. Condition: the world's shape. -/
import Derived.Test.YtaddefjkjlkjnaaDoorLaw28b
import Derived.Test.YtaddefjkjlkjnaaDoorKt
namespace Go.Proofs.YtaddefjkjlkjnaaDoor
open Go.RowKit IH
set_option maxRecDepth 100000
def brk28 : Reply := { conn := 0, kind := 5, moment := 0, lines := 0, method := [], uri := [], key := [], status := 0, age := 0 }
theorem brk_right : right28 brk28 = true := by decide
theorem brk_line : (line28 brk28).length = 23 := by decide
theorem brk_small : Small28 brk28 := ⟨by decide, by decide, by decide⟩
theorem brks_len (m : Nat) : (lines28 (List.replicate m brk28)).length = 23 * m := by
  induction m with
  | zero => rfl
  | succ m ih =>
    rw [List.replicate_succ]
    show ((brk28 :: List.replicate m brk28).flatMap line28).length = _
    rw [List.flatMap_cons, List.length_append, brk_line]
    have : ((List.replicate m brk28).flatMap line28).length = 23 * m := ih
    omega
theorem brks_right (m : Nat) : anyWrong (List.replicate m brk28) = false := by
  unfold anyWrong
  rw [List.any_eq_false]
  intro x hx
  rw [(List.mem_replicate.1 hx).2, brk_right]
  simp
theorem brks_few (m : Nat) (h : m ≤ 10000) : print28 (List.replicate m brk28) = (lines28 (List.replicate m brk28), 0) := by
  unfold print28
  rw [brks_right, if_neg (by simp), if_neg (by rw [List.length_replicate]; omega), if_neg (by rw [brks_len]; omega)]
theorem brks_many (m : Nat) (h : 10000 < m) : print28 (List.replicate m brk28) = ([], 13) := by
  unfold print28
  rw [brks_right, if_neg (by simp), if_pos (by rw [List.length_replicate]; omega)]
theorem brks_snoc (m : Nat) : lines28 (List.replicate (m + 1) brk28) = lines28 (List.replicate m brk28) ++ line28 brk28 := by
  rw [List.replicate_succ']
  unfold lines28
  rw [List.flatMap_append]
  simp
theorem brks_small (m : Nat) : ∀ t ∈ List.replicate m brk28, Small28 t := fun t ht => by rw [(List.mem_replicate.1 ht).2]; exact brk_small
theorem brks_self (m : Nat) : ∀ t ∈ List.replicate m brk28, one28 (body28 t) = some t ∧ ∀ c ∈ body28 t, c ≠ 10 := fun t ht => by rw [(List.mem_replicate.1 ht).2]; exact one_self brk_right
theorem toldsV_take (L : List Reply) (k : Nat) : (toldsV L).take (k * 9) = toldsV (L.take k) := by
  induction L generalizing k with
  | nil => simp [toldsV]
  | cons t L ih =>
    cases k with
    | zero => simp [toldsV]
    | succ k =>
      rw [List.take_succ_cons]
      show (toldCells t ++ toldsV L).take ((k + 1) * 9) = toldCells t ++ toldsV (L.take k)
      rw [List.take_append, List.take_of_length_le (by rw [toldCells_length]; omega), toldCells_length, show (k + 1) * 9 - 9 = k * 9 by omega, ih]
set_option maxHeartbeats 16000000 in
theorem abounds_walk (w : World) (hsh : w.ShapedOpen Tryd.prog) (a : Int) (_ha : (Lit.int .i64 a).wf = true) :
    Calls Tryd.prog 7 #[.int .i64 a] w fun e w' => e = .returned (.bool true) ∧ Below w.heap.size w w' := by
  have AW := Lib.hid (awake28_any w)
  have HSH := Lib.hid (fun (W : World) (hb : Below w.heap.size w W) => shaped_below hsh hb)
  clear hsh
  have a1 : -4 < Int.tmod a 4 := Int.lt_tmod_of_pos a (by omega)
  have a2 : Int.tmod a 4 < 4 := Int.tmod_lt_of_pos a (by omega)
  go_enter Tryd.func7, Tryd.ntmps7
  go_upto_region 4 with (go_at_call 23; refine AW.out.mono ?_; rintro e w2 ⟨rfl, hb2⟩; have B2 := Lib.hid hb2; clear hb2)
  obtain ⟨k, hk⟩ : ∃ k, (Int.tmod a 4 + 4) % 4 = k := ⟨_, rfl⟩
  have k0 : 0 ≤ k := by omega
  have k1 : k < 4 := by omega
  rw [hk]
  obtain ⟨K, rfl⟩ : ∃ K : Nat, k = K := ⟨k.toNat, by omega⟩
  obtain ⟨m, hm⟩ : ∃ m : Nat, 9998 + K = m := ⟨_, rfl⟩
  have hmI : (9998 : Int) + (K : Int) = (m : Int) := by omega
  have m0 : 9998 ≤ m := by omega
  have m1 : m ≤ 10001 := by omega
  have hK3 : K ≤ 3 := by omega
  have Hm := Lib.hid hm
  have hB2 := B2.out.size
  clear hk a1 a2 k0 k1 hm
  go_wp2_with fail
  go_loopw [4, 6] (fun v i wr => ∃ (j : Nat), j ≤ m ∧ i = .int .i64 j ∧ wr.ownsRow w.heap.size 48 9 v j (toldsV (List.replicate j brk28)) ∧ Below w.heap.size w wr) (fun _ i _ => m - (intOf i).toNat)
  case atStart => exact ⟨0, by omega, rfl, World.ownsRow_nil _ _ _ _, B2.out⟩
  case round =>
    clear B2
    obtain ⟨w0, rfl⟩ : ∃ w0 : World, w0 = wr := ⟨_, rfl⟩
    obtain ⟨j, hj, rfl, hrow, hbel⟩ := hrel
    have HO := Lib.hid hrow
    have HB := Lib.hid hbel
    have hws := hbel.size
    clear hrow hbel
    by_cases hlt : j < m
    · have jI : (j : Int) < (m : Int) := by omega
      go_wp2_with (at_builtin; refine wpList_app2 told_ty rfl _ _ rfl w.heap.size _ _ _ rfl HO.out 1 1 (toldCells brk28) _ rfl (by simp) (by rfl) (told_one _) (by omega) (by simp only [maxLen]; omega) hws ?_; intro v' w4 hown hgr)
      go_roundw
      case rel => exact ⟨j + 1, hlt, by go_num, by rw [List.replicate_succ', toldsV_snoc]; exact hown, HB.out.grown hgr hws fun q hq => (HO.out.lt q hq).1⟩
      case measure => simp [intOf]; omega
    · obtain rfl : m = j := by omega
      obtain ⟨A, c, rfl, hsl⟩ := own_slice HO.out
      have S0 := Lib.hid hsl
      obtain ⟨b, off, rfl, hbl, h9⟩ := at9_of (k := 0) (t := brk28) hsl (by rw [List.getElem?_replicate, if_pos (by omega)]) (by omega)
      rw [Nat.zero_mul, Nat.add_zero] at h9
      obtain ⟨x0, x1, x2, x3, x4, x5, x6, x7, x8⟩ := h9
      change _ = some (Value.int .i64 0) at x0
      change _ = some (Value.int .i64 5) at x1
      change _ = some (Value.int .i64 0) at x2
      change _ = some (Value.int .i64 0) at x3
      change _ = some (Value.string ⟨#[]⟩) at x4
      change _ = some (Value.string ⟨#[]⟩) at x5
      change _ = some (Value.string ⟨#[]⟩) at x6
      change _ = some (Value.int .i64 0) at x7
      change _ = some (Value.int .i64 0) at x8
      have mI : 0 < m := by omega
      have PO := Print28_any (some ⟨w0.heap.size, 0, none⟩) 1 1 (List.replicate 1 brk28) (w0.alloc (.cells #[.int .i64 0, .int .i64 5, .int .i64 0, .int .i64 0, .string ⟨#[]⟩, .string ⟨#[]⟩, .string ⟨#[]⟩, .int .i64 0, .int .i64 0] 48))
        ((RowAt.new w0 48 (toldCells brk28)).slice (size := 9) (n := 1) (c := 1) rfl (Nat.le_refl _) (by simp [maxLen])) (by omega) (brks_small 1)
      rw [brks_few 1 (by omega)] at PO
      have h1l : lines28 (List.replicate 1 brk28) = line28 brk28 := by simp [lines28]
      simp only [h1l] at PO
      obtain ⟨ON, hON⟩ : ∃ T : ByteArray, (⟨(line28 brk28).toArray⟩ : ByteArray) = T := ⟨_, rfl⟩
      rw [hON] at PO
      have hONs : ON.size = 23 := by rw [← hON, size_mk, brk_line]
      have hONl : ON.data.toList = line28 brk28 := by rw [← hON]
      have hONI : (ON.size : Int) = 23 := by omega
      replace PO := Lib.hid PO
      have PA := fun (W : World) (hW : Below w0.heap.size w0 W) => Print28_any (some ⟨b, off, none⟩) m c (List.replicate m brk28) W ((S0.out.below hW).more hW.size) (by omega) (brks_small m)
      have hwm : IntKind.i64.wrap ((m : Nat) : Int) = (m : Int) := IntWalk.i64_in _ ⟨by omega, by omega⟩
      have HBA := Lib.hid (HB.out.alloc hws (.cells #[.int .i64 0, .int .i64 5, .int .i64 0, .int .i64 0, .string ⟨#[]⟩, .string ⟨#[]⟩, .string ⟨#[]⟩, .int .i64 0, .int .i64 0] 48))
      have hlenU := brks_len m
      clear hlt hsl hON
      by_cases hK2 : K ≤ 2
      · have kI : (K : Int) ≤ 2 := by omega
        have hm4 : m ≤ 10000 := by have := Hm.out; omega
        rw [brks_few m hm4] at PA
        obtain ⟨T, hT⟩ : ∃ T : ByteArray, (⟨(lines28 (List.replicate m brk28)).toArray⟩ : ByteArray) = T := ⟨_, rfl⟩
        have hTs : T.size = 23 * m := by rw [← hT, size_mk, hlenU]
        simp only at PA
        rw [hT] at PA
        have hTl : T.data.toList = lines28 (List.replicate m brk28) := by rw [← hT]
        have SP := fun (W : World) (hW : Below w.heap.size w W) => aParse_any T (by omega) W (HSH.out W hW)
        rw [hTl, lines_body, read_print one28 body28 (brks_self m) (by rw [List.length_replicate]; exact hm4) (by rw [← lines_body, hlenU]; omega)] at SP
        simp only [List.length_replicate] at SP
        replace SP := Lib.hid SP
        replace PA := Lib.hid PA
        have h23 : IntKind.i64.wrap (23 * ((m : Nat) : Int)) = (T.size : Int) := by rw [hTs, show 23 * ((m : Nat) : Int) = ((23 * m : Nat) : Int) by omega]; exact IntWalk.i64_in _ ⟨by omega, by omega⟩
        clear hT hlenU hK2 hTl hTs hONl
        go_upto_region 20 with (first
          | (go_at_call_of 30 (Value.slice (some ⟨w0.heap.size, 0, none⟩) 1 1); refine PO.out.mono ?_; rintro e w3 ⟨rfl, hb3⟩; have B3 := Lib.hid (HBA.out.trans (hb3.mono (by simp; omega))); have E3 := Lib.hid (((Below.refl w0.heap.size w0).alloc (Nat.le_refl _) _).trans (hb3.mono (by simp))); clear hb3)
          | (go_at_call_of 30 (Value.slice (some ⟨b, off, none⟩) m c); refine (PA.out _ E3.out).mono ?_; rintro e w4 ⟨rfl, hb4⟩; have B4 := Lib.hid (B3.out.trans (hb4.mono B3.out.size)); clear hb4)
          | (go_at_call 31; refine (SP.out _ B4.out).mono ?_; rintro e w5 ⟨v5, rfl, ho5, hb5⟩; have B5 := Lib.hid (B4.out.trans (hb5.mono B4.out.size)); obtain ⟨A5, c5, rfl, _⟩ := own_slice ho5; clear ho5 hb5))
        refine wp_region_seq ?_
        iterate 3
          refine seq_take (v := ?_) (wanted_un rfl) ?_ ?_
          rotate_left
          · go_simp
            try with_reducible rfl
          try simp only [Act.put, List.setIfInBounds_toArray, List.set_cons_zero, List.set_cons_succ]
        iterate 6
          refine seq_take (v := ?_) (wanted_yes rfl rfl rfl rfl) ?_ ?_
          rotate_left
          · go_simp
            try with_reducible rfl
          try simp only [Act.put, List.setIfInBounds_toArray, List.set_cons_zero, List.set_cons_succ]
        iterate 2
          refine seq_take (v := ?_) (wanted_un rfl) ?_ ?_
          rotate_left
          · go_simp
            try with_reducible rfl
          try simp only [Act.put, List.setIfInBounds_toArray, List.set_cons_zero, List.set_cons_succ]
        iterate 2
          refine seq_take (v := ?_) (wanted_yes rfl rfl rfl rfl) ?_ ?_
          rotate_left
          · go_simp
            try with_reducible rfl
          try simp only [Act.put, List.setIfInBounds_toArray, List.set_cons_zero, List.set_cons_succ]
        iterate 2
          refine seq_take (v := ?_) (wanted_un rfl) ?_ ?_
          rotate_left
          · go_simp
            try with_reducible rfl
          try simp only [Act.put, List.setIfInBounds_toArray, List.set_cons_zero, List.set_cons_succ]
        iterate 4
          refine seq_take (v := ?_) (wanted_yes rfl rfl rfl rfl) ?_ ?_
          rotate_left
          · go_simp
            try with_reducible rfl
          try simp only [Act.put, List.setIfInBounds_toArray, List.set_cons_zero, List.set_cons_succ]
        iterate 2
          refine seq_take (v := ?_) (wanted_un rfl) ?_ ?_
          rotate_left
          · go_simp
            try with_reducible rfl
          try simp only [Act.put, List.setIfInBounds_toArray, List.set_cons_zero, List.set_cons_succ]
        iterate 4
          refine seq_take (v := ?_) (wanted_yes rfl rfl rfl rfl) ?_ ?_
          rotate_left
          · go_simp
            try with_reducible rfl
          try simp only [Act.put, List.setIfInBounds_toArray, List.set_cons_zero, List.set_cons_succ]
        iterate 2
          refine seq_take (v := ?_) (wanted_un rfl) ?_ ?_
          rotate_left
          · go_simp
            try with_reducible rfl
          try simp only [Act.put, List.setIfInBounds_toArray, List.set_cons_zero, List.set_cons_succ]
        refine seq_done ?_
        go_wp2_with fail
        go_ret
        exact ⟨rfl, B5.out⟩
      · have kI : (2 : Int) < (K : Int) := by omega
        have hm4 : m = 10001 := by have := Hm.out; omega
        rw [brks_many m (by omega)] at PA
        simp only at PA
        replace PA := Lib.hid PA
        obtain ⟨T, hT⟩ : ∃ T : ByteArray, (⟨(lines28 (List.replicate 10000 brk28)).toArray⟩ : ByteArray) = T := ⟨_, rfl⟩
        have hTs : T.size = 230000 := by rw [← hT, size_mk, brks_len]
        have hTd : (T ++ ON).data.toList = lines28 (List.replicate 10001 brk28) := by rw [append_data, ← hT, hONl]; exact (brks_snoc 10000).symm
        have SP := fun (W : World) (hW : Below w.heap.size w W) => aParse_any (T ++ ON) (by rw [← data_len, hTd, brks_len]; omega) W (HSH.out W hW)
        rw [hTd, lines_body, read_many one28 body28 (brks_self 10001) (by rw [List.length_replicate]; omega) (by rw [← lines_body, brks_len]; omega)] at SP
        simp only [List.length_nil] at SP
        replace SP := Lib.hid SP
        have hsub := S0.out.sub (a := 0) (b := 10000) (by omega) (by omega) (some ⟨b, off, none⟩) (fun _ => by simp [Addr.add])
        rw [Nat.zero_mul, List.drop_zero, Nat.sub_zero, Nat.sub_zero, toldsV_take, List.take_replicate, hm4] at hsub
        have PB := fun (W : World) (hW : Below w0.heap.size w0 W) => Print28_any (some ⟨b, off, none⟩) 10000 c (List.replicate 10000 brk28) W ((hsub.below hW).more hW.size) (by omega) (brks_small 10000)
        rw [brks_few 10000 (Nat.le_refl _)] at PB
        simp only at PB
        rw [hT] at PB
        replace PB := Lib.hid PB
        have hcm := S0.out.2.1
        have hcI : (10000 : Int) ≤ (c : Int) := by omega
        have hc0 : 10000 ≤ c := by omega
        clear hT hlenU hK2 hTd hONl hsub
        subst hm4
        go_upto_region 21 with (first
          | (go_at_call_of 30 (Value.slice (some ⟨w0.heap.size, 0, none⟩) 1 1); refine PO.out.mono ?_; rintro e w3 ⟨rfl, hb3⟩; have B3 := Lib.hid (HBA.out.trans (hb3.mono (by simp; omega))); have E3 := Lib.hid (((Below.refl w0.heap.size w0).alloc (Nat.le_refl _) _).trans (hb3.mono (by simp))); clear hb3)
          | (go_at_call_of 30 (Value.slice (some ⟨b, off, none⟩) 10001 c); refine (PA.out _ E3.out).mono ?_; rintro e w4 ⟨rfl, hb4⟩; have B4 := Lib.hid (B3.out.trans (hb4.mono B3.out.size)); have E4 := Lib.hid (E3.out.trans (hb4.mono E3.out.size)); clear hb4)
          | (go_at_call_of 30 (Value.slice (some ⟨b, off, none⟩) 10000 c); refine (PB.out _ E4.out).mono ?_; rintro e w6 ⟨rfl, hb6⟩; have B6 := Lib.hid (B4.out.trans (hb6.mono B4.out.size)); clear hb6)
          | (go_at_call 31; refine (SP.out _ B6.out).mono ?_; rintro e w5 ⟨v5, rfl, ho5, hb5⟩; have B5 := Lib.hid (B6.out.trans (hb5.mono B6.out.size)); obtain ⟨A5, c5, rfl, _⟩ := own_slice ho5; clear ho5 hb5))
        refine wp_region_seq ?_
        iterate 3
          refine seq_take (v := ?_) (wanted_un rfl) ?_ ?_
          rotate_left
          · go_simp
            try with_reducible rfl
          try simp only [Act.put, List.setIfInBounds_toArray, List.set_cons_zero, List.set_cons_succ]
        iterate 2
          refine seq_take (v := ?_) (wanted_yes rfl rfl rfl rfl) ?_ ?_
          rotate_left
          · go_simp
            try with_reducible rfl
          try simp only [Act.put, List.setIfInBounds_toArray, List.set_cons_zero, List.set_cons_succ]
        iterate 2
          refine seq_take (v := ?_) (wanted_un rfl) ?_ ?_
          rotate_left
          · go_simp
            try with_reducible rfl
          try simp only [Act.put, List.setIfInBounds_toArray, List.set_cons_zero, List.set_cons_succ]
        iterate 2
          refine seq_take (v := ?_) (wanted_yes rfl rfl rfl rfl) ?_ ?_
          rotate_left
          · go_simp
            try with_reducible rfl
          try simp only [Act.put, List.setIfInBounds_toArray, List.set_cons_zero, List.set_cons_succ]
        iterate 2
          refine seq_take (v := ?_) (wanted_un rfl) ?_ ?_
          rotate_left
          · go_simp
            try with_reducible rfl
          try simp only [Act.put, List.setIfInBounds_toArray, List.set_cons_zero, List.set_cons_succ]
        iterate 2
          refine seq_take (v := ?_) (wanted_yes rfl rfl rfl rfl) ?_ ?_
          rotate_left
          · go_simp
            try with_reducible rfl
          try simp only [Act.put, List.setIfInBounds_toArray, List.set_cons_zero, List.set_cons_succ]
        iterate 2
          refine seq_take (v := ?_) (wanted_un rfl) ?_ ?_
          rotate_left
          · go_simp
            try with_reducible rfl
          try simp only [Act.put, List.setIfInBounds_toArray, List.set_cons_zero, List.set_cons_succ]
        iterate 3
          refine seq_take (v := ?_) (wanted_yes rfl rfl rfl rfl) ?_ ?_
          rotate_left
          · go_simp
            try with_reducible rfl
          try simp only [Act.put, List.setIfInBounds_toArray, List.set_cons_zero, List.set_cons_succ]
        iterate 2
          refine seq_take (v := ?_) (wanted_un rfl) ?_ ?_
          rotate_left
          · go_simp
            try with_reducible rfl
          try simp only [Act.put, List.setIfInBounds_toArray, List.set_cons_zero, List.set_cons_succ]
        refine seq_done ?_
        go_wp2_with fail
        go_ret
        exact ⟨rfl, B5.out⟩
end Go.Proofs.YtaddefjkjlkjnaaDoor
