/- Walks of layer 5: the URI of a text, by the document; a URI's text. Condition: texts within 10^8 octets. -/
import Derived.Test.YtaddefjkjlkjnaaDoorTar13
namespace Go.Proofs.YtaddefjkjlkjnaaDoor
open Go.RowKit IH
set_option maxRecDepth 100000
set_option maxHeartbeats 16000000 in
theorem refParse5_any (s : ByteArray) (hs : s.size ≤ 100000000) (w : World) :
    Calls Tryd.prog 38 #[.string s] w fun e w' => e = .returned (.tuple #[.agg (uriC (parseU s.data.toList).1).toArray, .int .i64 (parseU s.data.toList).2]) ∧ Below w.heap.size w w' := by
  obtain ⟨U, hU⟩ : ∃ U, parseU s.data.toList = U := ⟨_, rfl⟩
  rw [hU]
  obtain ⟨g0, hg0⟩ : ∃ g0, w.heap.size = g0 := ⟨_, rfl⟩
  obtain ⟨wa, hwa⟩ : ∃ wa, w.alloc (.cells zeroC.toArray 63) = wa := ⟨_, rfl⟩
  have RS : Hid (Res g0 w wa) := Lib.hid (by rw [← hwa, ← hg0]; exact Res.start w)
  have ZS : Hid (RowAt wa g0 63 zeroC) := Lib.hid (by rw [← hwa, ← hg0]; exact RowAt.new w _ _)
  rw [show zeroC.toArray = #[.string ⟨#[]⟩, .int .i64 0, .string ⟨#[]⟩] from rfl] at hwa
  rw [hg0]
  by_cases h8 : 8000 < s.size
  · have hu : U = (zeroU, 12) := by rw [← hU]; unfold parseU; rw [data_len, if_pos h8]
    have HU := Lib.hid hu
    have hI : (8000 : Int) < (s.size : Int) := by omega
    clear hU hu
    go_enter Tryd.func38, Tryd.ntmps38
    go_wp2_with (refine wpList_store_row rfl 63 _ _ rfl g0 63 zeroC zeroC rfl rfl ZS.out rfl (by kernel_rfl) uri_one ?_; intro w9 hq9 ho9; have q0 := hq9.cell (j := 0) rfl; have q1 := hq9.cell (j := 1) rfl; have q2 := hq9.cell (j := 2) rfl)
    exact bodyPost_ret (v := .tuple #[.agg #[.string ⟨#[]⟩, .int .i64 0, .string ⟨#[]⟩], .int .i64 12]) (by simp [results, Tryd.results38, go_sem, q0, q1, q2]) rfl ⟨by rw [HU.out]; rfl, (RS.out.stored ho9 hq9 rfl).below⟩
  · have hI : (s.size : Int) ≤ 8000 := by omega
    have BG := fun w => refHttp_any s (by omega) w
    cases hb : begins5 s.data.toList with
    | false =>
      have hu : U = (zeroU, 10) := by rw [← hU]; unfold parseU; rw [data_len, if_neg h8, if_neg (by simp [hb])]
      have HU := Lib.hid hu
      rw [hb] at BG
      replace BG := Lib.hid BG
      clear hU hu hb h8 ZS
      go_enter Tryd.func38, Tryd.ntmps38
      go_wp2_with (first
        | (go_at_call 95; refine (BG.out _).mono ?_; rintro e w3 ⟨rfl, hb3⟩; have R3 := Lib.hid (RS.out.step hb3); obtain ⟨cs6, hc6, hr6⟩ := R3.out.row; clear hb3)
        | (refine wpList_store_row rfl 63 _ _ rfl g0 63 zeroC cs6 rfl rfl hr6 (by rw [hc6]; rfl) (by kernel_rfl) uri_one ?_; intro w9 hq9 ho9; have q0 := hq9.cell (j := 0) rfl; have q1 := hq9.cell (j := 1) rfl; have q2 := hq9.cell (j := 2) rfl))
      exact bodyPost_ret (v := .tuple #[.agg #[.string ⟨#[]⟩, .int .i64 0, .string ⟨#[]⟩], .int .i64 10]) (by simp [results, Tryd.results38, go_sem, q0, q1, q2]) rfl ⟨by rw [HU.out]; rfl, (R3.out.stored ho9 hq9 rfl).below⟩
    | true =>
      rw [hb] at BG
      have hs7 : 7 ≤ s.size := by
        unfold begins5 at hb
        rw [Bool.and_eq_true, decide_eq_true_eq, data_len] at hb
        exact hb.1
      obtain ⟨R, hR⟩ : ∃ R : ByteArray, s.extract 7 s.size = R := ⟨_, rfl⟩
      have hRl : R.data.toList = s.data.toList.drop 7 := by rw [← hR, drop_data]
      obtain ⟨N, hN⟩ : ∃ N, (R.data.toList.takeWhile offC).length = N := ⟨_, rfl⟩
      have hpa := parse_at s h8 hb R hRl N hN
      rw [hU] at hpa
      have hRs : R.size + 7 = s.size := by rw [← data_len, hRl, List.length_drop, data_len]; omega
      have hNR : N ≤ R.size := by rw [← hN, ← data_len]; exact (List.takeWhile_prefix _).length_le
      have hend : ∀ k c, s.data.toList[k]? = some c → 7 ≤ k → k ≤ 7 + N → (offC c = false ↔ k = 7 + N) := by
        intro k c hk h7 hkn
        have := off_end R.data.toList (k - 7) c (by rw [hRl, List.getElem?_drop, show 7 + (k - 7) = k by omega]; exact hk) (by rw [hN]; omega)
        rw [hN] at this
        rw [this]
        omega
      obtain ⟨T, hT⟩ : ∃ T, 7 + N = T := ⟨_, rfl⟩
      rw [hT] at hend
      have hTs : T ≤ s.size := by omega
      have hT7 : 7 ≤ T := by omega
      have x1 : R.extract 0 N = s.extract 7 T := bytes_inj (by rw [take_data R N hNR, hRl, Lib.extract_data, ← hT, Nat.add_sub_cancel_left])
      have x2 : R.extract N R.size = s.extract T s.size := bytes_inj (by rw [drop_data, drop_data, hRl, List.drop_drop, hT])
      rw [x1, x2] at hpa
      obtain ⟨E, hE⟩ : ∃ E : ByteArray, s.extract 7 T = E := ⟨_, rfl⟩
      obtain ⟨D, hD⟩ : ∃ E : ByteArray, s.extract T s.size = E := ⟨_, rfl⟩
      rw [hE, hD] at hpa
      have hEs : E.size ≤ 8000 := by rw [← hE]; simp; omega
      have hDs : D.size ≤ 8000 := by rw [← hD]; simp; omega
      have HPA := Lib.hid hpa
      have HEND := Lib.hid hend
      replace BG := Lib.hid BG
      have TI : (T : Int) ≤ (s.size : Int) := by omega
      have T7 : (7 : Int) ≤ (T : Int) := by omega
      clear hU hb hRl hN hpa ZS hend x1 x2 hR hT h8 hNR hRs
      go_enter Tryd.func38, Tryd.ntmps38
      go_upto_block 0 with (go_at_call 95; refine (BG.out _).mono ?_; rintro e w3 ⟨rfl, hb3⟩; have R3 := Lib.hid (RS.out.step hb3); clear hb3)
      go_cut [4] from 16 to 33 (fun s4 wx => s4 = .int .i64 T ∧ wx = w3)
      case first =>
        go_wp2_with fail
        go_loopw [4] (fun s4 wr => ∃ k : Nat, 7 ≤ k ∧ k ≤ T ∧ s4 = .int .i64 k ∧ wr = w3) (fun s4 _ => T - (intOf s4).toNat)
        case atStart => exact ⟨7, by omega, by omega, rfl, rfl⟩
        case round =>
          obtain ⟨k, hk7, hk, rfl, rfl⟩ := hrel
          by_cases hkA : k = T
          · subst hkA
            by_cases hks : k < s.size
            · obtain ⟨c, hc⟩ : ∃ c, s[k] = c := ⟨_, rfl⟩
              have hoff : offC c = false := (HEND.out k c (by rw [get_data s k hks, hc]) hk7 (Nat.le_refl _)).2 rfl
              have kI : (k : Int) < (s.size : Int) := by omega
              by_cases h47 : c = 47
              · subst h47
                have e47 : (((47 : UInt8).toNat : Int) != 47) = false := by decide
                clear hoff
                go_wp2_with fail
                go_meet
                exact ⟨rfl, rfl⟩
              · have h63 : c = 63 := by
                  refine Decidable.byContradiction fun h => ?_
                  have : offC c = true := by simp [offC, h47, h]
                  rw [this] at hoff
                  cases hoff
                subst h63
                have e47 : (((63 : UInt8).toNat : Int) != 47) = true := by decide
                have e63 : (((63 : UInt8).toNat : Int) != 63) = false := by decide
                clear hoff h47
                go_wp2_with fail
                go_meet
                exact ⟨rfl, rfl⟩
            · have kI : ¬ ((k : Int) < (s.size : Int)) := by omega
              go_wp2_with fail
              go_meet
              exact ⟨rfl, rfl⟩
          · have hks : k < s.size := by omega
            obtain ⟨c, hc⟩ : ∃ c, s[k] = c := ⟨_, rfl⟩
            have hoff : offC c = true := by
              refine Decidable.byContradiction fun h => ?_
              exact hkA ((HEND.out k c (by rw [get_data s k hks, hc]) hk7 hk).1 (by simpa using h))
            have hcc : c ≠ 47 ∧ c ≠ 63 := by
              unfold offC at hoff
              simpa using hoff
            have kI : (k : Int) < (s.size : Int) := by omega
            have e47' : ((c.toNat : Int) == 47) = false := by rw [byteLit c 47 47 rfl, beq_eq_false_iff_ne]; intro h; exact hcc.1 (UInt8.toNat_inj.1 h)
            have e47 : ((c.toNat : Int) != 47) = true := by rw [bne, e47']; rfl
            have e63' : ((c.toNat : Int) == 63) = false := by rw [byteLit c 63 63 rfl, beq_eq_false_iff_ne]; intro h; exact hcc.2 (UInt8.toNat_inj.1 h)
            have e63 : ((c.toNat : Int) != 63) = true := by rw [bne, e63']; rfl
            clear hoff hcc
            go_wp2_with fail
            go_roundw
            case rel => exact ⟨k + 1, by omega, by omega, by go_num, by first | rfl | trivial⟩
            case measure => simp [intOf]; omega
      case rest =>
        obtain ⟨rfl, rfl⟩ := hcut
        have SE := fun w => refSeat_any E (by omega) w
        unfold seatR at SE
        obtain ⟨X, hX⟩ : ∃ X, seatL E.data.toList = X := ⟨_, rfl⟩
        rw [hX] at SE HPA
        have T0 : (0 : Int) ≤ (T : Int) := by omega
        cases X with
        | none =>
          have HU : Hid (U = (zeroU, 10)) := Lib.hid (by rw [HPA.out]; rfl)
          simp only at SE
          replace SE := Lib.hid SE
          go_wp2_with (first
            | (go_at_call 96; refine (SE.out _).mono ?_; rintro e w5 ⟨rfl, hb5⟩; have R5 := Lib.hid (R3.out.step hb5); obtain ⟨cs6, hc6, hr6⟩ := R5.out.row; clear hb5)
            | (refine wpList_store_row rfl 63 _ _ rfl g0 63 zeroC cs6 rfl rfl hr6 (by rw [hc6]; rfl) (by kernel_rfl) uri_one ?_; intro w9 hq9 ho9; have q0 := hq9.cell (j := 0) rfl; have q1 := hq9.cell (j := 1) rfl; have q2 := hq9.cell (j := 2) rfl))
          exact bodyPost_ret (v := .tuple #[.agg #[.string ⟨#[]⟩, .int .i64 0, .string ⟨#[]⟩], .int .i64 10]) (by simp [results, Tryd.results38, go_sem, q0, q1, q2]) rfl ⟨by rw [HU.out]; rfl, (R5.out.stored ho9 hq9 rfl).below⟩
        | some x =>
          obtain ⟨hx, nx⟩ := x
          simp only at SE
          obtain ⟨H, hH⟩ : ∃ H : ByteArray, (⟨hx.toArray⟩ : ByteArray) = H := ⟨_, rfl⟩
          rw [hH] at SE
          have hHl : H.data.toList = hx := by rw [← hH]
          replace SE := Lib.hid SE
          have PD := fun (W : World) => refAt_any H nx D (by omega) W
          obtain ⟨J, hJ⟩ : ∃ J, joinU (some (H.data.toList, nx)) (placeL D.data.toList) = J := ⟨_, rfl⟩
          rw [hJ] at PD
          have HUJ : Hid (U = J) := Lib.hid (by rw [HPA.out, ← hJ, hHl])
          obtain ⟨JU, JE⟩ := J
          simp only [uriC] at PD
          replace PD := Lib.hid PD
          clear hJ hH hHl
          go_wp2_with (first
            | (go_at_call 96; refine (SE.out _).mono ?_; rintro e w5 ⟨rfl, hb5⟩; have R5 := Lib.hid (R3.out.step hb5); clear hb5)
            | (go_at_call 97; refine (PD.out _).mono ?_; rintro e w6 ⟨rfl, hb6⟩; have R6 := Lib.hid (R5.out.step hb6); obtain ⟨cs6, hc6, hr6⟩ := R6.out.row; clear hb6)
            | (refine wpList_store_row rfl 63 _ _ rfl g0 63 [.string ⟨JU.host.toArray⟩, .int .i64 JU.port, .string ⟨JU.path.toArray⟩] cs6 rfl rfl hr6 (by rw [hc6]; rfl) (by kernel_rfl) uri_one ?_; intro w9 hq9 ho9; have q0 := hq9.cell (j := 0) rfl; have q1 := hq9.cell (j := 1) rfl; have q2 := hq9.cell (j := 2) rfl))
          exact bodyPost_ret (v := .tuple #[.agg #[.string ⟨JU.host.toArray⟩, .int .i64 JU.port, .string ⟨JU.path.toArray⟩], .int .i64 JE]) (by simp [results, Tryd.results38, go_sem, q0, q1, q2]) rfl ⟨by rw [HUJ.out]; rfl, (R6.out.stored ho9 hq9 rfl).below⟩
end Go.Proofs.YtaddefjkjlkjnaaDoor
