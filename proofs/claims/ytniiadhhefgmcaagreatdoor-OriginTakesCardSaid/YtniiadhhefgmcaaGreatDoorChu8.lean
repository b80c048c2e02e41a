/- Walk of layer 7's document: octets so far, told. Condition: at most 10^8 octets. -/
import Derived.Test.YtniiadhhefgmcaaGreatDoorCz
import Derived.Test.YtniiadhhefgmcaaGreatDoorCy
import Derived.Test.YtniiadhhefgmcaaGreatDoorFq
namespace Go.Proofs.YtniiadhhefgmcaaGreatDoor
open Go.RowKit IH
set_option maxRecDepth 100000
theorem lineC_errs (b : List UInt8) : (lineC b).2.2 = 0 ∨ (lineC b).2.2 = 10 ∨ (lineC b).2.2 = 12 := by
  unfold lineC
  split
  · split
    · exact .inr (.inr rfl)
    · exact .inl rfl
  · split
    · exact .inr (.inl rfl)
    · exact .inl rfl
theorem lineC_pos {b s : List UInt8} {k : Nat} (h : lineC b = (s, k, 0)) : k ≤ b.length := lineC_le h
theorem ahead_13 (out : List UInt8) (a : Nat) (r : List UInt8 × Nat × Int × Dec) (h : r.2.2.1 = 13) : IH.ahead out a r = ([], 0, 13, r.2.2.2) := by unfold IH.ahead; rw [if_pos (by rw [h]; decide), h]
set_option maxHeartbeats 16000000 in
theorem told_any (A : Option Addr) (n c : Nat) (l : List UInt8) (w : World) (hin : SliceIn w w.heap.size 1 A n c (bytesV l)) (hn : n ≤ 100000000) :
    Calls Tryz.prog 71 #[.slice A n c] w fun e w' => ∃ v, e = .returned (.tuple #[v, .int .i64 (run Dec.new l).2.1, .bool (decide ((run Dec.new l).2.2.1 = 0 ∧ (run Dec.new l).2.2.2.w = 4)), .int .i64 (run Dec.new l).2.2.1]) ∧ w'.ownsRow w.heap.size 5 1 v (run Dec.new l).1.length (bytesV (run Dec.new l).1) ∧ Below w.heap.size w w' := by
  have hll : l.length = n := by have := hin.1; rw [bytesV_length, Nat.mul_one] at this; exact this
  have hnc := hin.2.1
  obtain ⟨R, hR⟩ : ∃ R, run Dec.new l = R := ⟨_, rfl⟩
  rw [hR]
  have HR0 : Hid (R = IH.ahead [] 0 (run (at0 0) (l.drop 0))) := Lib.hid (by rw [← hR]; exact (ahead_nil _ fun h => ⟨(run_err (at0 0) l h).1, (run_err (at0 0) l h).2.1⟩).symm)
  have Hin := Lib.hid hin
  have Hll := Lib.hid hll
  have Hnc := Lib.hid hnc
  have RL := Lib.hid (fun (W : World) (a : Nat) (ha : a ≤ n) (hb : Below w.heap.size w W) => rline_any A n c w.heap.size l a W (hin.below hb) ha (by omega))
  clear hR hin hll hnc
  go_enter Tryz.func71, Tryz.ntmps71
  go_wp2
  go_loopw [6, 7, 8] (fun v i tt wr => ∃ (a : Nat) (out : List UInt8) (t : Nat), i = .int .i64 a ∧ tt = .int .i64 t ∧ a ≤ n ∧ out.length ≤ a ∧ t ≤ 1048576 ∧ R = IH.ahead out a (run (at0 t) (l.drop a)) ∧ wr.ownsRow w.heap.size 5 1 v out.length (bytesV out) ∧ Below w.heap.size w wr) (fun _ i _ _ => n - (intOf i).toNat)
  case atStart => exact ⟨0, [], 0, rfl, rfl, by omega, by simp, by omega, HR0.out, World.ownsRow_nil _ _ _ _, Below.refl _ _⟩
  case round =>
    clear HR0
    obtain ⟨a, out, t, rfl, rfl, ha, hout, ht, hRa, hown, hbel⟩ := hrel
    obtain ⟨w0, rfl⟩ : ∃ w0 : World, w0 = wr := ⟨_, rfl⟩
    have LN := RL.out w0 a ha hbel
    have hsl := lineC_short (l.drop a)
    have her := lineC_errs (l.drop a)
    have hle := fun s k (h : lineC (l.drop a) = (s, k, 0)) => lineC_pos h
    obtain ⟨L, hL⟩ : ∃ L, lineC (l.drop a) = L := ⟨_, rfl⟩
    rw [hL] at LN hsl her
    obtain ⟨s, k, e⟩ := L
    simp only at her hsl
    have Hown := Lib.hid hown
    have Hbel := Lib.hid hbel
    have i2 : (0 : Int) ≤ (a : Int) := by omega
    clear hown hbel
    by_cases he : e = 0
    · subst he
      by_cases hk : k = 0
      · subst hk
        rw [run0_more (by rw [hL]) (by rw [hL]), ahead_ok, List.append_nil, Nat.add_zero] at hRa
        have HU := Lib.hid hRa
        rw [show lineT a (s, 0, 0) = ([], 0, 11) from rfl] at LN
        replace LN := Lib.hid LN
        clear hRa hL hle her
        go_wp2_with (go_at_call 103; refine LN.out.mono ?_; rintro e w2 ⟨rfl, q, rfl⟩)
        (try simp only [Exit.inBlock, Exit.then]); refine bodyPost_ret (results_tmp4 rfl _ _ _) rfl ?_
        exact ⟨_, by rw [HU.out]; rfl, by rw [HU.out]; exact Hown.out, below_drewN Hbel.out q⟩
      · have hkl := hle s k hL
        rw [List.length_drop, Hll.out] at hkl
        rw [show lineT a (s, k, 0) = (s, (a : Int) + k, 0) by unfold lineT; simp [hk]] at LN
        obtain ⟨b, hb⟩ : ∃ b : Nat, a + k = b := ⟨_, rfl⟩
        have hbI : (a : Int) + (k : Int) = (b : Int) := by omega
        have hbn : b ≤ n := by omega
        have hab : a < b := by omega
        rw [hbI] at LN
        obtain ⟨S, hS⟩ : ∃ S : ByteArray, (⟨s.toArray⟩ : ByteArray) = S := ⟨_, rfl⟩
        have hSd : S.data.toList = s := by rw [← hS]
        have hSs : S.size ≤ 256 := by rw [← data_len, hSd]; exact hsl
        rw [show (s, (b : Int), (0 : Int)).1 = s from rfl, hS] at LN
        have SZ := fun W => rsize_any S (by omega) W
        rw [hSd] at SZ
        obtain ⟨z, hz⟩ : ∃ z, sizeC s = z := ⟨_, rfl⟩
        rw [hz] at SZ
        replace LN := Lib.hid LN
        replace SZ := Lib.hid SZ
        have HL := Lib.hid hL
        have HS := Lib.hid hS
        have HSd := Lib.hid hSd
        have HZ := Lib.hid hz
        have HB := Lib.hid hb
        have HK := Lib.hid hk
        clear hL hS hSd hz hb hle her hsl hbI hk
        have zw : z < 0 ∨ z = 0 ∨ (0 < z ∧ 1048576 - (t : Int) < z) ∨ (0 < z ∧ z ≤ 1048576 - (t : Int)) := by omega
        rcases zw with hz | hz | ⟨hz, hzt⟩ | ⟨hz, hzt⟩
        · rw [run0_bad HL.out HK.out (by rw [HZ.out]; exact hz), ahead_err _ _ _ _ (by decide)] at hRa
          have HU := Lib.hid hRa
          clear hRa
          go_wp2_with (first
            | (go_at_call 103; refine LN.out.mono ?_; rintro e w2 ⟨rfl, q, rfl⟩)
            | (go_at_call 104; refine (SZ.out _).mono ?_; rintro e w3 ⟨rfl, rfl⟩))
          (try simp only [Exit.inBlock, Exit.then]); refine bodyPost_ret (results_tmp4 rfl _ _ _) rfl ?_
          exact ⟨_, by rw [HU.out]; rfl, by rw [HU.out]; exact World.ownsRow_nil _ _ _ _, below_drewN Hbel.out q⟩
        · subst hz
          rw [run0_end HL.out HK.out HZ.out, ahead_ahead, List.append_nil, List.drop_drop, HB.out] at hRa
          have HU := Lib.hid hRa
          clear hRa
          go_wp2_with (first
            | (go_at_call 103; refine LN.out.mono ?_; rintro e w2 ⟨rfl, q, hw2⟩; have O2 : Hid (w2.ownsRow w.heap.size 5 1 u6 out.length (bytesV out)) := Lib.hid (by rw [hw2]; exact Hown.out); have B2 : Hid (Below w.heap.size w w2) := Lib.hid (by rw [hw2]; exact below_drewN Hbel.out q); clear hw2)
            | (go_at_call 104; refine (SZ.out _).mono ?_; rintro e w3 ⟨rfl, rfl⟩))
          clear LN SZ HL HS HSd HZ HB HK Hown Hbel
          go_loopw [7, 13] (fun i kk wr => ∃ (a2 k2 : Nat), i = .int .i64 a2 ∧ kk = .int .i64 k2 ∧ a2 ≤ n ∧ k2 ≤ 128 ∧ R = IH.ahead out a2 (run (at3 t k2) (l.drop a2)) ∧ wr.ownsRow w.heap.size 5 1 u6 out.length (bytesV out) ∧ Below w.heap.size w wr) (fun i _ _ => n - (intOf i).toNat)
          case atStart => exact ⟨b, 0, rfl, rfl, hbn, by omega, HU.out, O2.out, B2.out⟩
          case round =>
            clear HU O2 B2
            obtain ⟨a2, k2, rfl, rfl, ha2, hk2, hRb, hown2, hbel2⟩ := hrel
            have LN := RL.out wr a2 ha2 hbel2
            have hsl := lineC_short (l.drop a2)
            have her := lineC_errs (l.drop a2)
            have hle := fun s k (h : lineC (l.drop a2) = (s, k, 0)) => lineC_pos h
            obtain ⟨L, hL⟩ : ∃ L, lineC (l.drop a2) = L := ⟨_, rfl⟩
            rw [hL] at LN hsl her
            obtain ⟨s, k, e⟩ := L
            simp only at her hsl
            have Hown := Lib.hid hown2
            have Hbel := Lib.hid hbel2
            have i2 : (0 : Int) ≤ (a2 : Int) := by omega
            clear hown2 hbel2
            by_cases he : e = 0
            · subst he
              by_cases hk : k = 0
              · subst hk
                rw [run3_more (by rw [hL]) (by rw [hL]), ahead_ok, List.append_nil, Nat.add_zero] at hRb
                have HU := Lib.hid hRb
                rw [show lineT a2 (s, 0, 0) = ([], 0, 11) from rfl] at LN
                replace LN := Lib.hid LN
                clear hRb hL hle her
                go_wp2_with (go_at_call 103; refine LN.out.mono ?_; rintro e w2 ⟨rfl, q, rfl⟩)
                (try simp only [Exit.inBlock, Exit.then]); refine bodyPost_ret (results_tmp4 rfl _ _ _) rfl ?_
                exact ⟨_, by rw [HU.out]; rfl, by rw [HU.out]; exact Hown.out, below_drewN Hbel.out q⟩
              · have hkl := hle s k hL
                rw [List.length_drop, Hll.out] at hkl
                rw [show lineT a2 (s, k, 0) = (s, (a2 : Int) + k, 0) by unfold lineT; simp [hk]] at LN
                obtain ⟨b2, hb⟩ : ∃ b2 : Nat, a2 + k = b2 := ⟨_, rfl⟩
                have hbI : (a2 : Int) + (k : Int) = (b2 : Int) := by omega
                have hbn2 : b2 ≤ n := by omega
                have hab2 : a2 < b2 := by omega
                rw [hbI] at LN
                obtain ⟨S, hS⟩ : ∃ S : ByteArray, (⟨s.toArray⟩ : ByteArray) = S := ⟨_, rfl⟩
                have hSd : S.data.toList = s := by rw [← hS]
                have hSs : S.size ≤ 256 := by rw [← data_len, hSd]; exact hsl
                rw [show (s, (b2 : Int), (0 : Int)).1 = s from rfl, hS] at LN
                replace LN := Lib.hid LN
                clear hbI hle her
                by_cases hs : s = []
                · subst hs
                  have e0 : (S.toList == []) = true := by rw [beq_iff_eq, ByteArray.toList_eq]; exact hSd
                  have e1 : S.toList = [] := by rw [ByteArray.toList_eq]; exact hSd
                  rw [run3_end hL hk, ahead_ok, List.append_nil, hb] at hRb
                  have HU := Lib.hid hRb
                  clear hRb hL hS hSd hb hk hsl
                  go_wp2_with (go_at_call 103; refine LN.out.mono ?_; rintro e w2 ⟨rfl, q, rfl⟩)
                  (try simp only [Exit.inBlock, Exit.then]); refine bodyPost_ret (results_tmp4 rfl _ _ _) rfl ?_
                  exact ⟨_, by rw [HU.out]; rfl, by rw [HU.out]; exact Hown.out, below_drewN Hbel.out q⟩
                · have e0 : (S.toList == []) = false := by rw [beq_eq_false_iff_ne, ByteArray.toList_eq, hSd]; exact hs
                  have hSz : (S ++ (⟨#[13, 10, 13, 10]⟩ : ByteArray)).size = S.size + 4 := by rw [← data_len, append_data, List.length_append, data_len]; rfl
                  have hTd : (S ++ (⟨#[13, 10, 13, 10]⟩ : ByteArray)).data.toList = s ++ [13, 10, 13, 10] := by rw [append_data, hSd]
                  have CV := fun W => Lib.run_convert_string_bytes (P := Tryz.prog) W 9 25 5 (S ++ (⟨#[13, 10, 13, 10]⟩ : ByteArray)) Tryz.underlying9 Tryz.underlying25 Tryz.underlying5
                  have PA := fun (W : World) => refParse3_any (some ⟨W.heap.size, 0, none⟩) (S.size + 4) (grownCap W (S ++ (⟨#[13, 10, 13, 10]⟩ : ByteArray)).size 0 5) (s ++ [13, 10, 13, 10]) (Lib.bytesWorld W 5 (S ++ (⟨#[13, 10, 13, 10]⟩ : ByteArray))) (by
                    have hrow := RowAt.bytes W 5 (S ++ (⟨#[13, 10, 13, 10]⟩ : ByteArray))
                    rw [hTd] at hrow
                    refine hrow.slice (size := 1) (n := S.size + 4) ?_ ?_ ?_
                    · rw [bytesV_length, ← hTd, data_len, hSz, Nat.mul_one]
                    · rw [← hSz]; exact grownCap_ge W _ 0 5
                    · exact grownCap_le_maxLen W _ 0 5 (by simp only [maxLen]; omega)) (by omega)
                  obtain ⟨P3, hP3⟩ : ∃ P3, parseFs (s ++ [13, 10, 13, 10]) = P3 := ⟨_, rfl⟩
                  rw [hP3] at PA
                  obtain ⟨r1, r2, r3⟩ := P3
                  simp only at PA
                  rw [hSz] at CV PA
                  have BW := Lib.hid (fun W => below_bytesWorld W 5 (S ++ (⟨#[13, 10, 13, 10]⟩ : ByteArray)))
                  replace PA := Lib.hid PA
                  replace CV := Lib.hid CV
                  by_cases h3 : r3 = 0
                  · subst h3
                    by_cases h128 : k2 = 128
                    · subst h128
                      have hm := run3_many (t := (t : Int)) hL hk hs (by rw [hP3]) (k := ((128 : Nat) : Int)) (by decide)
                      rw [ahead_13 _ _ _ hm.1] at hRb
                      have HU := Lib.hid hRb
                      clear hRb hL hS hSd hb hk hsl hP3 hTd hs hm hSz
                      go_wp2_with (first
                        | (go_at_call 103; refine LN.out.mono ?_; rintro e w2 ⟨rfl, q, hw2⟩; have B2 : Hid (Below w.heap.size w w2) := Lib.hid (by rw [hw2]; exact below_drewN Hbel.out q); have cv := CV.out w2; clear hw2)
                        | (go_at_call 70; (with_reducible refine (PA.out w2).mono ?_); rintro e w3 ⟨v3, rfl, _, hb3⟩; have B3 := Lib.hid (below_step (below_step B2.out (BW.out w2)) hb3); clear hb3 cv))
                      (try simp only [Exit.inBlock, Exit.then]); refine bodyPost_ret (results_tmp4 rfl _ _ _) rfl ?_
                      exact ⟨_, by rw [HU.out]; rfl, by rw [HU.out]; exact World.ownsRow_nil _ _ _ _, B3.out⟩
                    · have hk3 : (k2 : Int) + 1 ≤ 128 := by omega
                      rw [run3_field hL hk hs (by rw [hP3]) hk3, ahead_ahead, List.append_nil, List.drop_drop, hb] at hRb
                      have HU : Hid (R = IH.ahead out b2 (run (at3 t ((k2 + 1 : Nat) : Int)) (l.drop b2))) := Lib.hid (by rw [hRb]; rfl)
                      have hkn : ¬ (128 ≤ (k2 : Int)) := by omega
                      clear hRb hL hS hSd hb hk hsl hP3 hTd hs hSz
                      go_wp2_with (first
                        | (go_at_call 103; refine LN.out.mono ?_; rintro e w2 ⟨rfl, q, hw2⟩; have O2 : Hid (w2.ownsRow w.heap.size 5 1 u6 out.length (bytesV out)) := Lib.hid (by rw [hw2]; exact Hown.out); have B2 : Hid (Below w.heap.size w w2) := Lib.hid (by rw [hw2]; exact below_drewN Hbel.out q); have cv := CV.out w2; clear hw2)
                        | (go_at_call 70; (with_reducible refine (PA.out w2).mono ?_); rintro e w3 ⟨v3, rfl, _, hb3⟩; have O3 := Lib.hid (own_below (own_below O2.out (BW.out w2)) hb3); have B3 := Lib.hid (below_step (below_step B2.out (BW.out w2)) hb3); clear hb3 cv))
                      go_roundw
                      case rel => exact ⟨b2, k2 + 1, rfl, by go_num, hbn2, by omega, HU.out, O3.out, B3.out⟩
                      case measure => simp [intOf]; omega
                  · rw [run3_bad hL hk hs (by rw [hP3]; exact h3), ahead_err _ _ _ _ (by decide)] at hRb
                    have n3 : (r3 != 0) = true := by rw [bne_iff_ne]; exact h3
                    have HU := Lib.hid hRb
                    clear hRb hL hS hSd hb hk hsl hP3 hTd hs hSz
                    go_wp2_with (first
                      | (go_at_call 103; refine LN.out.mono ?_; rintro e w2 ⟨rfl, q, hw2⟩; have B2 : Hid (Below w.heap.size w w2) := Lib.hid (by rw [hw2]; exact below_drewN Hbel.out q); have cv := CV.out w2; clear hw2)
                      | (go_at_call 70; (with_reducible refine (PA.out w2).mono ?_); rintro e w3 ⟨v3, rfl, _, hb3⟩; have B3 := Lib.hid (below_step (below_step B2.out (BW.out w2)) hb3); clear hb3 cv))
                    (try simp only [Exit.inBlock, Exit.then]); refine bodyPost_ret (results_tmp4 rfl _ _ _) rfl ?_
                    exact ⟨_, by rw [HU.out]; rfl, by rw [HU.out]; exact World.ownsRow_nil _ _ _ _, B3.out⟩
            · have he2 : e = 10 ∨ e = 12 := by omega
              rw [show lineT a2 (s, k, e) = ([], 0, e) by unfold lineT; simp [he]] at LN
              have hre := run3_err (t := (t : Int)) (k := (k2 : Int)) (r := l.drop a2) (by rw [hL]; exact he)
              rw [hL] at hre
              rw [hre, ahead_err _ _ _ _ he] at hRb
              have HU := Lib.hid hRb
              replace LN := Lib.hid LN
              clear hRb hL hle her hre he
              rcases he2 with rfl | rfl
              all_goals
                go_wp2_with (go_at_call 103; refine LN.out.mono ?_; rintro e w2 ⟨rfl, q, rfl⟩)
                (try simp only [Exit.inBlock, Exit.then]); refine bodyPost_ret (results_tmp4 rfl _ _ _) rfl ?_
                exact ⟨_, by rw [HU.out]; rfl, by rw [HU.out]; exact World.ownsRow_nil _ _ _ _, below_drewN Hbel.out q⟩
        · rw [run0_long HL.out HK.out (by rw [HZ.out]; exact hz) (by rw [HZ.out]; exact hzt), ahead_err _ _ _ _ (by decide)] at hRa
          have HU := Lib.hid hRa
          have hz0 : (z == 0) = false := by rw [beq_eq_false_iff_ne]; omega
          have hzn : ¬ z < 0 := by omega
          clear hRa
          go_wp2_with (first
            | (go_at_call 103; refine LN.out.mono ?_; rintro e w2 ⟨rfl, q, rfl⟩)
            | (go_at_call 104; refine (SZ.out _).mono ?_; rintro e w3 ⟨rfl, rfl⟩))
          (try simp only [Exit.inBlock, Exit.then]); refine bodyPost_ret (results_tmp4 rfl _ _ _) rfl ?_
          exact ⟨_, by rw [HU.out]; rfl, by rw [HU.out]; exact World.ownsRow_nil _ _ _ _, below_drewN Hbel.out q⟩
        · rw [run0_data HL.out HK.out (by rw [HZ.out]; exact hz) (by rw [HZ.out]; exact hzt), ahead_ahead, List.append_nil, List.drop_drop, HB.out, HZ.out] at hRa
          have hz0 : (z == 0) = false := by rw [beq_eq_false_iff_ne]; omega
          have hzn : ¬ z < 0 := by omega
          have hztn : ¬ (1048576 - (t : Int) < z) := by omega
          obtain ⟨Z, rfl⟩ : ∃ Z : Nat, z = (Z : Int) := ⟨z.toNat, by omega⟩
          obtain ⟨t2, ht2⟩ : ∃ t2 : Nat, t + Z = t2 := ⟨_, rfl⟩
          have ht2I : (t : Int) + (Z : Int) = (t2 : Int) := by omega
          have ht2b : t2 ≤ 1048576 := by omega
          rw [ht2I] at hRa
          have HU := Lib.hid hRa
          clear hRa ht2
          go_wp2_with (first
            | (go_at_call 103; refine LN.out.mono ?_; rintro e w2 ⟨rfl, q, hw2⟩; have O2 : Hid (w2.ownsRow w.heap.size 5 1 u6 out.length (bytesV out)) := Lib.hid (by rw [hw2]; exact Hown.out); have B2 : Hid (Below w.heap.size w w2) := Lib.hid (by rw [hw2]; exact below_drewN Hbel.out q); clear hw2)
            | (go_at_call 104; refine (SZ.out _).mono ?_; rintro e w3 ⟨rfl, rfl⟩))
          clear LN SZ HL HS HSd HZ HB HK Hown Hbel
          go_loopw [6, 7, 12] (fun v i nn wr => ∃ (j p m : Nat), i = .int .i64 p ∧ nn = .int .i64 m ∧ p = b + j ∧ m + j = Z ∧ p ≤ n ∧ wr.ownsRow w.heap.size 5 1 v (out ++ (l.drop b).take j).length (bytesV (out ++ (l.drop b).take j)) ∧ Below w.heap.size w wr) (fun _ _ nn _ => (intOf nn).toNat)
          case atStart => exact ⟨0, b, Z, rfl, rfl, by omega, by omega, hbn, by simpa using O2.out, B2.out⟩
          case round =>
            clear O2 B2
            obtain ⟨j, p, m, rfl, rfl, hp, hm, hpn, hown2, hbel2⟩ := hrel
            have Hown := Lib.hid hown2
            have Hbel := Lib.hid hbel2
            have hB2 := hbel2.size
            clear hown2 hbel2
            have hdl : (l.drop b).length = n - b := by rw [List.length_drop, Hll.out]
            by_cases hm0 : m = 0
            · subst hm0
              obtain rfl : j = Z := by omega
              have hRn := HU.out
              rw [run1_full (by omega) (by rw [hdl]; omega), ahead_ahead, List.drop_drop, ← hp] at hRn
              have mI : ¬ (0 : Int) < ((0 : Nat) : Int) := by omega
              obtain ⟨out2, ho2⟩ : ∃ o, out ++ (l.drop b).take j = o := ⟨_, rfl⟩
              rw [ho2] at hRn Hown
              have ho2l : out2.length ≤ p := by rw [← ho2, List.length_append, List.length_take, hdl]; omega
              have hap : a < p := by omega
              clear HU ho2 hp hm hdl hz hzt ht2I hztn hz0 hzn
              obtain ⟨p2, hp2⟩ : ∃ p2 : Nat, p + 2 = p2 := ⟨_, rfl⟩
              have hp2I : (p : Int) + 2 = (p2 : Int) := by omega
              by_cases hl2 : n < p2
              · rw [run2_more (by rw [List.length_drop, Hll.out]; omega), ahead_ok, List.append_nil, Nat.add_zero] at hRn
                have HU := Lib.hid hRn
                clear hRn hp2
                go_wp2
                (try simp only [Exit.inBlock, Exit.then]); refine bodyPost_ret (results_tmp4 rfl _ _ _) rfl ?_
                exact ⟨_, by rw [HU.out]; rfl, by rw [HU.out]; exact Hown.out, Hbel.out⟩
              · obtain ⟨x0, hx0⟩ : ∃ x, l[p]? = some x := ⟨_, List.getElem?_eq_getElem (by rw [Hll.out]; omega)⟩
                obtain ⟨x1, hx1⟩ : ∃ x, l[p + 1]? = some x := ⟨_, List.getElem?_eq_getElem (by rw [Hll.out]; omega)⟩
                obtain ⟨b0, off, rfl, hb0, hcell⟩ := (Hin.out.below Hbel.out).2.2.2 (by omega)
                have c0 := hcell p (.int .u8 x0.toNat) (by rw [bytesV_get, hx0]; rfl)
                have c1 := hcell (p + 1) (.int .u8 x1.toNat) (by rw [bytesV_get, hx1]; rfl)
                have hdr : l.drop p = x0 :: x1 :: l.drop p2 := by
                  obtain ⟨g0, e0⟩ := List.getElem?_eq_some_iff.1 hx0
                  obtain ⟨g1, e1⟩ := List.getElem?_eq_some_iff.1 hx1
                  rw [List.drop_eq_getElem_cons g0, e0, List.drop_eq_getElem_cons g1, e1, ← hp2]
                have ip1 : ((p : Int) + 1).toNat = p + 1 := by omega
                have ip2 : (p : Int) + 1 < (n : Int) := by omega
                have ip3 : (0 : Int) ≤ (p : Int) + 1 := by omega
                have ip4 : p + 1 < n := by omega
                have ip5 : p < n := by omega
                have hp2n : ¬ (n : Int) < (p2 : Int) := by omega
                clear hcell hb0
                by_cases hok : x0 = 13 ∧ x1 = 10
                · obtain ⟨rfl, rfl⟩ := hok
                  rw [hdr, run2_ok, ahead_ahead, List.append_nil, hp2] at hRn
                  have HU := Lib.hid hRn
                  have e13 : ((((13 : UInt8).toNat : Int)) != 13) = false := rfl
                  have e10 : ((((10 : UInt8).toNat : Int)) != 10) = false := rfl
                  clear hRn hdr hx0 hx1 hp2
                  go_wp2
                  go_roundw
                  case rel => exact ⟨p2, out2, t2, rfl, rfl, by omega, by omega, ht2b, HU.out, Hown.out, Hbel.out⟩
                  case measure => simp [intOf]; omega
                · rw [run2_bad (by rw [List.length_drop, Hll.out]; omega) (by
                    rw [hdr]
                    simp only [List.getElem?_cons_zero, List.getElem?_cons_succ]
                    by_cases h : x0 = 13
                    · exact .inr fun h1 => hok ⟨h, Option.some.inj h1⟩
                    · exact .inl fun h1 => h (Option.some.inj h1)), ahead_err _ _ _ _ (by decide)] at hRn
                  have HU := Lib.hid hRn
                  have hw2 : ((x0.toNat : Int) != 13) = true ∨ (((x0.toNat : Int) != 13) = false ∧ ((x1.toNat : Int) != 10) = true) := by
                    by_cases h : x0 = 13
                    · subst h
                      refine .inr ⟨rfl, ?_⟩
                      rw [bne_iff_ne]
                      intro h1
                      exact hok ⟨rfl, UInt8.toNat_inj.1 (by have : (10 : UInt8).toNat = 10 := rfl; omega)⟩
                    · refine .inl ?_
                      rw [bne_iff_ne]
                      intro h1
                      exact h (UInt8.toNat_inj.1 (by have : (13 : UInt8).toNat = 13 := rfl; omega))
                  clear hRn hdr hx0 hx1 hok hp2
                  rcases hw2 with hw2 | ⟨hw2, hw3⟩
                  all_goals
                    go_wp2
                    (try simp only [Exit.inBlock, Exit.then]); refine bodyPost_ret (results_tmp4 rfl _ _ _) rfl ?_
                    exact ⟨_, by rw [HU.out]; rfl, by rw [HU.out]; exact World.ownsRow_nil _ _ _ _, Hbel.out⟩
            · by_cases hpl : p < n
              · obtain ⟨x, hx⟩ : ∃ x, l[p]? = some x := ⟨_, List.getElem?_eq_getElem (by rw [Hll.out]; omega)⟩
                obtain ⟨b0, off, rfl, hb0, hcell⟩ := (Hin.out.below Hbel.out).2.2.2 (by omega)
                have c0 := hcell p (.int .u8 x.toNat) (by rw [bytesV_get, hx]; rfl)
                have hxb : (l.drop b)[j]? = some x := by rw [List.getElem?_drop, ← hp]; exact hx
                have htk : out ++ (l.drop b).take (j + 1) = (out ++ (l.drop b).take j) ++ [x] := by rw [List.take_add_one, hxb]; simp
                have htl : (out ++ (l.drop b).take j).length ≤ 100000000 := by rw [List.length_append, List.length_take, hdl]; omega
                have mI : (0 : Int) < (m : Int) := by omega
                have HT := Lib.hid htk
                obtain ⟨o3, ho3⟩ : ∃ o, out ++ (l.drop b).take j = o := ⟨_, rfl⟩
                rw [ho3] at Hown HT htl
                obtain ⟨m2, rfl⟩ : ∃ m2, m = m2 + 1 := ⟨m - 1, by omega⟩
                have im : ((m2 + 1 : Nat) : Int) - 1 = (m2 : Int) := by omega
                have hmb : (m2 : Int) ≤ 1048576 := by omega
                have hmb0 : (0 : Int) ≤ (m2 : Int) := by omega
                have Hp := Lib.hid hp
                have Hm := Lib.hid hm
                clear hcell hb0 hx hxb htk ho3 hp hm
                go_wp2_with (at_builtin; refine wpList_app u8_ty rfl _ _ rfl w.heap.size _ _ _ rfl Hown.out 1 1 _ rfl (by rfl) (one1 _ rfl) (by omega) (by simp only [maxLen]; omega) hB2 ?_; intro v3 w3 hown3 hgr3)
                go_roundw
                case rel =>
                  have hp := Hp.out
                  have hm := Hm.out
                  refine ⟨j + 1, p + 1, m2, by go_num, by first | rfl | go_num, by omega, by omega, by omega, ?_, Hbel.out.grown hgr3 hB2 (fun g hg => (Hown.out.lt g hg).1)⟩
                  rw [HT.out, bytesV_append, List.length_append]
                  exact hown3
                case measure => simp [intOf]; first | omega | done
              · have hpe : p = n := by omega
                have mI : (0 : Int) < (m : Int) := by omega
                have hpI : ¬ (p : Int) < (n : Int) := by omega
                have hRn := HU.out
                rw [run1_part (by rw [hdl]; omega), ahead_ok, hdl, show b + (n - b) = n by omega] at hRn
                rw [List.take_of_length_le (by rw [hdl]; omega)] at Hown
                have HU2 := Lib.hid hRn
                clear hRn HU hp hm hdl hz hzt ht2I hztn hz0 hzn
                go_wp2
                (try simp only [Exit.inBlock, Exit.then]); refine bodyPost_ret (results_tmp4 rfl _ _ _) rfl ?_
                exact ⟨_, by rw [HU2.out]; rfl, by rw [HU2.out]; exact Hown.out, Hbel.out⟩
    · have he2 : e = 10 ∨ e = 12 := by omega
      rw [show lineT a (s, k, e) = ([], 0, e) by unfold lineT; simp [he]] at LN
      have hre := run0_err (t := (t : Int)) (r := l.drop a) (by rw [hL]; exact he)
      rw [hL] at hre
      rw [hre, ahead_err _ _ _ _ he] at hRa
      have HU := Lib.hid hRa
      replace LN := Lib.hid LN
      clear hRa hL hle her hre he
      rcases he2 with rfl | rfl
      all_goals
        go_wp2_with (go_at_call 103; refine LN.out.mono ?_; rintro e w2 ⟨rfl, q, rfl⟩)
        (try simp only [Exit.inBlock, Exit.then]); refine bodyPost_ret (results_tmp4 rfl _ _ _) rfl ?_
        exact ⟨_, by rw [HU.out]; rfl, by rw [HU.out]; exact World.ownsRow_nil _ _ _ _, below_drewN Hbel.out q⟩
end Go.Proofs.YtniiadhhefgmcaaGreatDoor
