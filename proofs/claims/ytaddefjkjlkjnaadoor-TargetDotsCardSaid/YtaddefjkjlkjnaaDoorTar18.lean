/- Walk of layer 5: a reference resolved, by the code. Condition: texts within 10^7 octets; the world's shape. -/
import Derived.Test.YtaddefjkjlkjnaaDoorTar17
namespace Go.Proofs.YtaddefjkjlkjnaaDoor
open Go.RowKit IH
set_option maxRecDepth 100000
theorem pre2 (l : List UInt8) : Lib.hasPrefix l [47, 47] = decide (l.take 2 = [47, 47]) := by
  unfold Lib.hasPrefix
  match l with
  | [] => rfl
  | [a] => simp [List.isPrefixOf]
  | a :: b :: r =>
    by_cases h1 : a = 47 <;> by_cases h2 : b = 47 <;> simp [List.isPrefixOf, h1, h2]
    · intro h; exact h2 h.symm
    · intro h; exact absurd h.symm h1
    · intro h; exact absurd h.symm h1
theorem up_last (B : ByteArray) : ∃ m : Nat, m ≤ B.size ∧ Lib.lastIndexByte B (47 : UInt8).toNat = (m : Int) - 1 ∧ upSlash B.data.toList = B.data.toList.take m := by
  by_cases hm : (47 : UInt8) ∈ B.data.toList.reverse
  · obtain ⟨a, b, h1, ha⟩ := List.eq_append_cons_of_mem hm
    have h2 : ∀ x ∈ a, x ≠ 47 := fun x hx e => ha (e ▸ hx)
    have e : B.data.toList = b.reverse ++ 47 :: a.reverse := by
      have := congrArg List.reverse h1
      rw [List.reverse_reverse] at this
      rw [this]; simp
    refine ⟨b.reverse.length + 1, ?_, ?_, ?_⟩
    · rw [← data_len, e]; simp
    · rw [last_mid e fun x hx => h2 x (by simpa using hx)]; omega
    · unfold upSlash
      rw [h1, (until_eq (d := 47) (x := a) (r := b) h2).2, e, List.reverse_cons, show b.reverse ++ 47 :: a.reverse = (b.reverse ++ [47]) ++ a.reverse by simp, List.take_left' (by simp)]
  · have hno : ∀ x ∈ B.data.toList, x ≠ 47 := fun x hx e => hm (by rw [List.mem_reverse]; exact e ▸ hx)
    refine ⟨0, by omega, by rw [last_no hno]; rfl, ?_⟩
    unfold upSlash
    rw [(until_all fun x hx => hno x (by simpa using hx)).2]
    rfl
theorem HasPrefix_t (s p : ByteArray) (w : World) :
    Calls Tryd.prog 98 #[.string s, .string p] w fun e w' => e = .returned (.bool (Lib.hasPrefix s.data.toList p.data.toList)) ∧ w = w' := by
  refine (Tryd.strings_HasPrefix s p w).mono ?_
  rintro e w' ⟨rfl, rfl⟩
  exact ⟨rfl, rfl⟩
set_option maxHeartbeats 32000000 in
theorem resolve5_any (H : ByteArray) (n : Int) (Q s : ByteArray) (hH : H.size ≤ 10000000) (hQ : Q.size ≤ 10000000) (hn0 : -9223372036854775808 ≤ n) (hn1 : n ≤ 9223372036854775807) (hs : s.size ≤ 1000000000) (w : World) (hsh : w.ShapedOpen Tryd.prog) :
    Calls Tryd.prog 39 #[.agg #[.string H, .int .i64 n, .string Q], .string s] w fun e w' => e = .returned (.tuple #[.agg (uriC (resolveU ⟨H.data.toList, n, Q.data.toList⟩ s.data.toList).1).toArray, .int .i64 (resolveU ⟨H.data.toList, n, Q.data.toList⟩ s.data.toList).2]) ∧ Below w.heap.size w w' := by
  obtain ⟨U, hU⟩ : ∃ U, resolveU ⟨H.data.toList, n, Q.data.toList⟩ s.data.toList = U := ⟨_, rfl⟩
  rw [hU]
  have hU0 := hU.symm
  unfold resolveU at hU0
  obtain ⟨g2, hg2⟩ : ∃ g, w.heap.size = g := ⟨_, rfl⟩
  obtain ⟨w1, hw1⟩ : ∃ W, w.alloc (.cells #[.string H, .int .i64 n, .string Q] 63) = W := ⟨_, rfl⟩
  obtain ⟨g4, hg4⟩ : ∃ g, w1.heap.size = g := ⟨_, rfl⟩
  obtain ⟨wa, hwa⟩ : ∃ wa, w1.alloc (.cells zeroC.toArray 63) = wa := ⟨_, rfl⟩
  have hlt24 : g2 < g4 := by rw [← hg2, ← hg4, ← hw1]; simp
  have RS : Hid (Res g4 w1 wa) := Lib.hid (by rw [← hwa, ← hg4]; exact Res.start w1)
  have BX := Lib.hid (fun (W : World) (hW : Res g4 w1 W) => (show Below g2 w W from by rw [← hg2]; exact (((Below.refl w.heap.size w).alloc (Nat.le_refl _) _).trans ((by rw [hw1, hg2]; exact hW.below.mono (by omega))))))
  have UX := Lib.hid (fun (W : World) (hW : Res g4 w1 W) => (show RowAt W g2 63 [.string H, .int .i64 n, .string Q] from (by have := RowAt.new w 63 [.string H, .int .i64 n, .string Q]; rw [hg2] at this; rw [show ([.string H, .int .i64 n, .string Q] : List Value).toArray = #[.string H, .int .i64 n, .string Q] from rfl, hw1] at this; exact this.below hW.below hlt24)))
  have SH := Lib.hid (fun (W : World) (hW : Res g4 w1 W) => shaped_below hsh (by rw [hg2]; exact BX.out W hW))
  rw [show zeroC.toArray = #[.string ⟨#[]⟩, .int .i64 0, .string ⟨#[]⟩] from rfl] at hwa
  rw [hg2]
  have RR := fun (W : World) (hW : Res g4 w1 W) => right5_any H n Q hH hQ hn0 hn1 W (SH.out W hW)
  clear hsh hU
  have V0 := UX.out _ RS.out; have u0 := V0.cell (j := 0) rfl; have u1 := V0.cell (j := 1) rfl; have u2 := V0.cell (j := 2) rfl; clear V0
  cases hr : rightU ⟨H.data.toList, n, Q.data.toList⟩ with
  | false =>
    rw [hr] at RR
    rw [if_pos (fun h => by rw [(rightU_iff _).2 h] at hr; cases hr)] at hU0
    have HU := Lib.hid hU0
    replace RR := Lib.hid RR
    clear hr hU0
    go_enter Tryd.func39, Tryd.ntmps39
    go_wp2_with (first
      | (go_at_call 45; refine (RR.out _ RS.out).mono ?_; rintro e w3 ⟨rfl, hb3⟩; have R3 := Lib.hid (RS.out.step hb3); obtain ⟨cs6, hc6, hr6⟩ := R3.out.row; clear hb3)
      | (refine wpList_store_row rfl 63 _ _ rfl g4 63 [.string ⟨#[]⟩, .int .i64 0, .string ⟨#[]⟩] cs6 rfl rfl hr6 (by rw [hc6]; rfl) (by kernel_rfl) uri_one ?_; intro w9 hq9 ho9; have q0 := hq9.cell (j := 0) rfl; have q1 := hq9.cell (j := 1) rfl; have q2 := hq9.cell (j := 2) rfl))
    exact bodyPost_ret (v := .tuple #[.agg #[.string ⟨#[]⟩, .int .i64 0, .string ⟨#[]⟩], .int .i64 2]) (by simp [results, Tryd.results39, go_sem, q0, q1, q2]) rfl ⟨by rw [HU.out]; rfl, BX.out _ (R3.out.stored ho9 hq9 rfl)⟩
  | true =>
    rw [hr] at RR
    rw [if_neg (fun h => h ((rightU_iff _).1 hr))] at hU0
    replace RR := Lib.hid RR
    clear hr
    go_enter Tryd.func39, Tryd.ntmps39
    go_upto_region 3 with (go_at_call 45; refine (RR.out _ RS.out).mono ?_; rintro e w3 ⟨rfl, hb3⟩; have R3 := Lib.hid (RS.out.step hb3); clear hb3)
    clear u0 u1 u2 RS RR hwa hw1 hg2 hg4
    by_cases h8 : 8000 < s.size
    · rw [data_len, if_pos h8] at hU0
      have HU := Lib.hid hU0
      have hI : (8000 : Int) < (s.size : Int) := by omega
      obtain ⟨cs6, hc6, hr6⟩ := R3.out.row
      clear hU0 h8
      go_wp2_with (refine wpList_store_row rfl 63 _ _ rfl g4 63 [.string ⟨#[]⟩, .int .i64 0, .string ⟨#[]⟩] cs6 rfl rfl hr6 (by rw [hc6]; rfl) (by kernel_rfl) uri_one ?_; intro w9 hq9 ho9; have q0 := hq9.cell (j := 0) rfl; have q1 := hq9.cell (j := 1) rfl; have q2 := hq9.cell (j := 2) rfl)
      exact bodyPost_ret (v := .tuple #[.agg #[.string ⟨#[]⟩, .int .i64 0, .string ⟨#[]⟩], .int .i64 12]) (by simp [results, Tryd.results39, go_sem, q0, q1, q2]) rfl ⟨by rw [HU.out]; rfl, BX.out _ (R3.out.stored ho9 hq9 rfl)⟩
    · rw [data_len, if_neg h8] at hU0
      have hI : (s.size : Int) ≤ 8000 := by omega
      go_upto_region 5 with fail
      by_cases hz : s.data.toList = []
      · rw [if_pos hz] at hU0
        have HU := Lib.hid hU0
        have e0 : (s.toList == []) = true := by rw [beq_iff_eq, ByteArray.toList_eq]; exact hz
        obtain ⟨cs6, hc6, hr6⟩ := R3.out.row
        have V0 := UX.out _ R3.out; have u0 := V0.cell (j := 0) rfl; have u1 := V0.cell (j := 1) rfl; have u2 := V0.cell (j := 2) rfl; clear V0
        clear hU0 hz h8
        go_wp2_with (refine wpList_store_row rfl 63 _ _ rfl g4 63 [.string H, .int .i64 n, .string Q] cs6 rfl rfl hr6 (by rw [hc6]; rfl) (by kernel_rfl) uri_one ?_; intro w9 hq9 ho9; have q0 := hq9.cell (j := 0) rfl; have q1 := hq9.cell (j := 1) rfl; have q2 := hq9.cell (j := 2) rfl)
        exact bodyPost_ret (v := .tuple #[.agg #[.string H, .int .i64 n, .string Q], .int .i64 0]) (by simp [results, Tryd.results39, go_sem, q0, q1, q2]) rfl ⟨by rw [HU.out]; simp only [uriC, Lib.mk_data], BX.out _ (R3.out.stored ho9 hq9 rfl)⟩
      · rw [if_neg hz] at hU0
        have e0 : (s.toList == []) = false := by rw [beq_eq_false_iff_ne, ByteArray.toList_eq]; exact hz
        have h0s : 0 < s.size := by
          rw [← data_len]
          exact List.length_pos_iff.2 hz
        have BG := fun w => begins_any s hs w
        cases hb : begins5 s.data.toList with
        | true =>
          rw [hb, if_pos rfl] at BG
          rw [if_pos hb] at hU0
          obtain ⟨R, hR⟩ : ∃ R : ByteArray, s.extract 7 s.size = R := ⟨_, rfl⟩
          rw [hR] at BG
          replace BG := Lib.hid BG
          clear hb hR hz h0s
          go_upto_region 9 with (go_at_call 91; refine (BG.out _).mono ?_; rintro e w4 ⟨rfl, hb4⟩; have R4 := Lib.hid (R3.out.step hb4); clear hb4)
          clear e0
          have PA := fun (W : World) (hW : Res g4 w1 W) => parse5_any s (by omega) W (SH.out W hW)
          obtain ⟨J, hJ⟩ : ∃ J, parseU (s).data.toList = J := ⟨_, rfl⟩
          have HUJ : Hid (U = J) := Lib.hid (by rw [hU0, ← hJ])
          rw [hJ] at PA
          obtain ⟨JU, JE⟩ := J
          simp only [uriC] at PA
          replace PA := Lib.hid PA
          clear hJ hU0
          go_wp2_with (first
            | (go_at_call 37; refine (PA.out _ R4.out).mono ?_; rintro e w8 ⟨rfl, hb8⟩; have R8 := Lib.hid (R4.out.step hb8); obtain ⟨cs6, hc6, hr6⟩ := R8.out.row; clear hb8)
            | (refine wpList_store_row rfl 63 _ _ rfl g4 63 [.string ⟨JU.host.toArray⟩, .int .i64 JU.port, .string ⟨JU.path.toArray⟩] cs6 rfl rfl hr6 (by rw [hc6]; rfl) (by kernel_rfl) uri_one ?_; intro w9 hq9 ho9; have q0 := hq9.cell (j := 0) rfl; have q1 := hq9.cell (j := 1) rfl; have q2 := hq9.cell (j := 2) rfl))
          exact bodyPost_ret (v := .tuple #[.agg #[.string ⟨JU.host.toArray⟩, .int .i64 JU.port, .string ⟨JU.path.toArray⟩], .int .i64 JE]) (by simp [results, Tryd.results39, go_sem, q0, q1, q2]) rfl ⟨by rw [HUJ.out]; rfl, BX.out _ (R8.out.stored ho9 hq9 rfl)⟩
        | false =>
          rw [hb, if_neg (by simp)] at BG
          rw [if_neg (by simp [hb])] at hU0
          replace BG := Lib.hid BG
          clear hb hz
          go_upto_region 10 with (go_at_call 91; refine (BG.out _).mono ?_; rintro e w4 ⟨rfl, hb4⟩; have R4 := Lib.hid (R3.out.step hb4); clear hb4)
          clear e0
          have V0 := UX.out _ R4.out; have u0 := V0.cell (j := 0) rfl; have u1 := V0.cell (j := 1) rfl; have u2 := V0.cell (j := 2) rfl; clear V0
          have CU := fun w => SCutC_any 63 Q (by omega) w
          obtain ⟨B, hB⟩ : ∃ x : ByteArray, (⟨(Q.data.toList.takeWhile (· != 63)).toArray⟩ : ByteArray) = x := ⟨_, rfl⟩
          obtain ⟨B1, hB1⟩ : ∃ x : ByteArray, (⟨((Q.data.toList.dropWhile (· != 63)).drop 1).toArray⟩ : ByteArray) = x := ⟨_, rfl⟩
          obtain ⟨B2, hB2⟩ : ∃ x, hasC 63 Q.data.toList = x := ⟨_, rfl⟩
          rw [hB, hB1, hB2] at CU
          have hBl : B.data.toList = Q.data.toList.takeWhile (· != 63) := by rw [← hB]
          have hBs : B.size ≤ 10000000 := by rw [← data_len, hBl]; have := (List.takeWhile_prefix (l := Q.data.toList) (fun x : UInt8 => x != 63)).length_le; rw [data_len] at this; omega
          have hBss : (B ++ s).size = B.size + s.size := by rw [← data_len, append_data, List.length_append, data_len, data_len]
          have hHts : ((⟨#[104, 116, 116, 112, 58]⟩ : ByteArray) ++ s).size = 5 + s.size := by rw [← data_len, append_data, List.length_append, data_len]; rfl
          replace CU := Lib.hid CU
          clear hB hB1 hB2
          go_upto_region 11 with (go_at_call 80; refine (CU.out _).mono ?_; rintro e w5 ⟨rfl, hb5⟩; have R5 := Lib.hid (R4.out.step hb5); clear hb5)
          clear u0 u1 u2
          have HP := fun w => HasPrefix_t s ⟨#[47, 47]⟩ w
          rw [show (⟨#[47, 47]⟩ : ByteArray).data.toList = [47, 47] from rfl, pre2] at HP
          by_cases h2 : s.data.toList.take 2 = [47, 47]
          · rw [decide_eq_true h2] at HP
            rw [if_pos h2] at hU0
            replace HP := Lib.hid HP
            clear h2
            go_upto_region 12 with (go_at_call 98; refine (HP.out _).mono ?_; rintro e w' ⟨rfl, rfl⟩)
            have PA := fun (W : World) (hW : Res g4 w1 W) => parse5_any ((⟨#[104, 116, 116, 112, 58]⟩ : ByteArray) ++ s) (by rw [hHts]; omega) W (SH.out W hW)
            obtain ⟨J, hJ⟩ : ∃ J, parseU (((⟨#[104, 116, 116, 112, 58]⟩ : ByteArray) ++ s)).data.toList = J := ⟨_, rfl⟩
            have HUJ : Hid (U = J) := Lib.hid (by rw [hU0, ← hJ, append_data])
            rw [hJ] at PA
            obtain ⟨JU, JE⟩ := J
            simp only [uriC] at PA
            replace PA := Lib.hid PA
            clear hJ hU0
            go_wp2_with (first
              | (go_at_call 37; refine (PA.out _ R5.out).mono ?_; rintro e w8 ⟨rfl, hb8⟩; have R8 := Lib.hid (R5.out.step hb8); obtain ⟨cs6, hc6, hr6⟩ := R8.out.row; clear hb8)
              | (refine wpList_store_row rfl 63 _ _ rfl g4 63 [.string ⟨JU.host.toArray⟩, .int .i64 JU.port, .string ⟨JU.path.toArray⟩] cs6 rfl rfl hr6 (by rw [hc6]; rfl) (by kernel_rfl) uri_one ?_; intro w9 hq9 ho9; have q0 := hq9.cell (j := 0) rfl; have q1 := hq9.cell (j := 1) rfl; have q2 := hq9.cell (j := 2) rfl))
            exact bodyPost_ret (v := .tuple #[.agg #[.string ⟨JU.host.toArray⟩, .int .i64 JU.port, .string ⟨JU.path.toArray⟩], .int .i64 JE]) (by simp [results, Tryd.results39, go_sem, q0, q1, q2]) rfl ⟨by rw [HUJ.out]; rfl, BX.out _ (R8.out.stored ho9 hq9 rfl)⟩
          · rw [decide_eq_false h2] at HP
            rw [if_neg h2] at hU0
            replace HP := Lib.hid HP
            clear h2
            go_upto_region 13 with (go_at_call 98; refine (HP.out _).mono ?_; rintro e w' ⟨rfl, rfl⟩)
            obtain ⟨c, hc⟩ : ∃ c, s[0] = c := ⟨_, rfl⟩
            have hd : s.data.toList.head? = some c := by rw [List.head?_eq_getElem?, get_data s 0 h0s, hc]
            have h0I : (0 : Int) < (s.size : Int) := by omega
            by_cases h47 : c = 47
            · subst h47
              have e47 : (((47 : UInt8).toNat : Int) == 47) = true := by decide
              have PD := fun (W : World) (hW : Res g4 w1 W) => placed_any H n Q s (by omega) W (SH.out W hW)
              obtain ⟨J, hJ⟩ : ∃ J, joinU (some (H.data.toList, n)) (placeL (s).data.toList) = J := ⟨_, rfl⟩
              have HUJ : Hid (U = J) := Lib.hid (by rw [hU0, if_pos (by rw [hd]), ← hJ])
              rw [hJ] at PD
              obtain ⟨JU, JE⟩ := J
              simp only [uriC] at PD
              replace PD := Lib.hid PD
              clear hJ hU0
              have V0 := UX.out _ R5.out; have u0 := V0.cell (j := 0) rfl; have u1 := V0.cell (j := 1) rfl; have u2 := V0.cell (j := 2) rfl; clear V0
              go_wp2_with (first
                | (go_at_call 94; refine (PD.out _ R5.out).mono ?_; rintro e w8 ⟨rfl, hb8⟩; have R8 := Lib.hid (R5.out.step hb8); obtain ⟨cs6, hc6, hr6⟩ := R8.out.row; clear hb8)
                | (refine wpList_store_row rfl 63 _ _ rfl g4 63 [.string ⟨JU.host.toArray⟩, .int .i64 JU.port, .string ⟨JU.path.toArray⟩] cs6 rfl rfl hr6 (by rw [hc6]; rfl) (by kernel_rfl) uri_one ?_; intro w9 hq9 ho9; have q0 := hq9.cell (j := 0) rfl; have q1 := hq9.cell (j := 1) rfl; have q2 := hq9.cell (j := 2) rfl))
              exact bodyPost_ret (v := .tuple #[.agg #[.string ⟨JU.host.toArray⟩, .int .i64 JU.port, .string ⟨JU.path.toArray⟩], .int .i64 JE]) (by simp [results, Tryd.results39, go_sem, q0, q1, q2]) rfl ⟨by rw [HUJ.out]; rfl, BX.out _ (R8.out.stored ho9 hq9 rfl)⟩
            · have e47 : ((c.toNat : Int) == 47) = false := by rw [byteLit c 47 47 rfl, beq_eq_false_iff_ne]; intro h; exact h47 (UInt8.toNat_inj.1 h)
              rw [if_neg (by rw [hd]; intro h; exact h47 (Option.some.inj h))] at hU0
              go_upto_region 15 with fail
              by_cases h63 : c = 63
              · subst h63
                have e63 : (((63 : UInt8).toNat : Int) == 63) = true := by decide
                have PD := fun (W : World) (hW : Res g4 w1 W) => placed_any H n Q (B ++ s) (by rw [hBss]; omega) W (SH.out W hW)
                obtain ⟨J, hJ⟩ : ∃ J, joinU (some (H.data.toList, n)) (placeL ((B ++ s)).data.toList) = J := ⟨_, rfl⟩
                have HUJ : Hid (U = J) := Lib.hid (by rw [hU0, if_pos (by rw [hd]), ← hJ, append_data, hBl])
                rw [hJ] at PD
                obtain ⟨JU, JE⟩ := J
                simp only [uriC] at PD
                replace PD := Lib.hid PD
                clear hJ hU0
                have V0 := UX.out _ R5.out; have u0 := V0.cell (j := 0) rfl; have u1 := V0.cell (j := 1) rfl; have u2 := V0.cell (j := 2) rfl; clear V0
                go_wp2_with (first
                  | (go_at_call 94; refine (PD.out _ R5.out).mono ?_; rintro e w8 ⟨rfl, hb8⟩; have R8 := Lib.hid (R5.out.step hb8); obtain ⟨cs6, hc6, hr6⟩ := R8.out.row; clear hb8)
                  | (refine wpList_store_row rfl 63 _ _ rfl g4 63 [.string ⟨JU.host.toArray⟩, .int .i64 JU.port, .string ⟨JU.path.toArray⟩] cs6 rfl rfl hr6 (by rw [hc6]; rfl) (by kernel_rfl) uri_one ?_; intro w9 hq9 ho9; have q0 := hq9.cell (j := 0) rfl; have q1 := hq9.cell (j := 1) rfl; have q2 := hq9.cell (j := 2) rfl))
                exact bodyPost_ret (v := .tuple #[.agg #[.string ⟨JU.host.toArray⟩, .int .i64 JU.port, .string ⟨JU.path.toArray⟩], .int .i64 JE]) (by simp [results, Tryd.results39, go_sem, q0, q1, q2]) rfl ⟨by rw [HUJ.out]; rfl, BX.out _ (R8.out.stored ho9 hq9 rfl)⟩
              · have e63 : ((c.toNat : Int) == 63) = false := by rw [byteLit c 63 63 rfl, beq_eq_false_iff_ne]; intro h; exact h63 (UInt8.toNat_inj.1 h)
                rw [if_neg (by rw [hd]; intro h; exact h63 (Option.some.inj h))] at hU0
                have RE := fun w => relative_any s hs w
                cases hsc : schemed s.data.toList with
                | true =>
                  rw [hsc] at RE
                  rw [if_pos hsc] at hU0
                  have HU := Lib.hid hU0
                  replace RE := Lib.hid RE
                  clear hsc hU0 hd h47 h63
                  go_wp2_with (first
                    | (go_at_call 99; refine (RE.out _).mono ?_; rintro e w8 ⟨rfl, hb8⟩; have R8 := Lib.hid (R5.out.step hb8); obtain ⟨cs6, hc6, hr6⟩ := R8.out.row; clear hb8)
                    | (refine wpList_store_row rfl 63 _ _ rfl g4 63 [.string ⟨#[]⟩, .int .i64 0, .string ⟨#[]⟩] cs6 rfl rfl hr6 (by rw [hc6]; rfl) (by kernel_rfl) uri_one ?_; intro w9 hq9 ho9; have q0 := hq9.cell (j := 0) rfl; have q1 := hq9.cell (j := 1) rfl; have q2 := hq9.cell (j := 2) rfl))
                  exact bodyPost_ret (v := .tuple #[.agg #[.string ⟨#[]⟩, .int .i64 0, .string ⟨#[]⟩], .int .i64 10]) (by simp [results, Tryd.results39, go_sem, q0, q1, q2]) rfl ⟨by rw [HU.out]; rfl, BX.out _ (R8.out.stored ho9 hq9 rfl)⟩
                | false =>
                  rw [hsc] at RE
                  rw [if_neg (by simp [hsc])] at hU0
                  replace RE := Lib.hid RE
                  clear hsc hd h47 h63
                  go_upto_region 19 with (go_at_call 99; refine (RE.out _).mono ?_; rintro e w6 ⟨rfl, hb6⟩; have R6 := Lib.hid (R5.out.step hb6); clear hb6)
                  obtain ⟨m, hm, hx, hup⟩ := up_last B
                  have LX := fun w => LastIndexByte_t B 47 (by omega) w
                  obtain ⟨x, hxx⟩ : ∃ x, Lib.lastIndexByte B (47 : UInt8).toNat = x := ⟨_, rfl⟩
                  rw [hxx] at LX hx
                  rw [show (((47 : UInt8).toNat : Nat) : Int) = 47 from rfl] at LX
                  have hx1 : x + 1 = (m : Int) := by omega
                  have hwr : IntKind.i64.wrap (m : Int) = (m : Int) := IntWalk.i64_in _ ⟨by omega, by omega⟩
                  have hmI : (m : Int) ≤ (B.size : Int) := by omega
                  have hm0 : (0 : Int) ≤ (m : Int) := by omega
                  obtain ⟨M, hM⟩ : ∃ M : ByteArray, B.extract 0 m = M := ⟨_, rfl⟩
                  have hMs : (M ++ s).size ≤ 100000000 := by rw [← data_len, append_data, List.length_append, data_len, data_len, ← hM]; simp; omega
                  have hMz : M.size ≤ 10000000 := by rw [← hM]; simp; omega
                  have PD := fun (W : World) (hW : Res g4 w1 W) => placed_any H n Q (M ++ s) hMs W (SH.out W hW)
                  obtain ⟨J, hJ⟩ : ∃ J, joinU (some (H.data.toList, n)) (placeL (M ++ s).data.toList) = J := ⟨_, rfl⟩
                  have HUJ : Hid (U = J) := Lib.hid (by rw [hU0, ← hJ, append_data, ← hM, take_data B m hm, ← hup, hBl])
                  rw [hJ] at PD
                  obtain ⟨JU, JE⟩ := J
                  simp only [uriC] at PD
                  replace PD := Lib.hid PD
                  replace LX := Lib.hid LX
                  clear hJ hU0 hx hup hxx hMs hBl
                  refine wp_region_plan (fun W => Res g4 w1 W) [(0, true), (1, true), (2, true), (6, true), (3, false), (4, true), (5, true), (7, true), (8, false), (9, true), (10, true), (11, false), (12, true)] (by kernel_rfl) (by kernel_rfl) rfl (by kernel_rfl) (R6.out.drewN 1) ?_
                  intro w1 hH
                  iterate 4
                    refine plan_take (v := ?_) rfl (by rfl) ?_ ?_
                    rotate_left
                    · intro w2 hSw
                      have z0 := (UX.out _ hSw).cell (j := 0) rfl
                      have z1 := (UX.out _ hSw).cell (j := 1) rfl
                      have z2 := (UX.out _ hSw).cell (j := 2) rfl
                      clear hSw
                      go_simp
                      try with_reducible rfl
                    try simp only [Act.put, List.setIfInBounds_toArray, List.set_cons_zero, List.set_cons_succ]
                  refine plan_move rfl (by rfl) (fun K hK => ?_)
                  go_simp
                  (with_reducible refine (LX.out _).mono ?_)
                  rintro e w8 ⟨rfl, rfl⟩
                  refine hK.out _ _ (hH.out) ?_
                  clear hH hK K
                  intro hH
                  try simp only [Act.put, List.setIfInBounds_toArray, List.set_cons_zero, List.set_cons_succ]
                  iterate 2
                    refine plan_take (v := ?_) rfl (by rfl) ?_ ?_
                    rotate_left
                    · intro w2 hSw
                      have z0 := (UX.out _ hSw).cell (j := 0) rfl
                      have z1 := (UX.out _ hSw).cell (j := 1) rfl
                      have z2 := (UX.out _ hSw).cell (j := 2) rfl
                      clear hSw
                      go_simp
                      try with_reducible rfl
                    try simp only [Act.put, List.setIfInBounds_toArray, List.set_cons_zero, List.set_cons_succ]
                  iterate 1
                    refine plan_add rfl (by rfl) _ _ _ _ rfl _ _ (by rfl) (by rfl) (by first | omega | (simp [mk_size]; omega)) ?_
                    try simp only [Act.put, List.setIfInBounds_toArray, List.set_cons_zero, List.set_cons_succ]
                  refine plan_move rfl (by rfl) (fun K hK => ?_)
                  go_simp
                  (with_reducible refine (PD.out _ hH.out).mono ?_)
                  rintro e w8 ⟨rfl, hb8⟩
                  refine hK.out _ _ (hH.out.step hb8) ?_
                  clear hH hK hb8 K
                  intro hH
                  try simp only [Act.put, List.setIfInBounds_toArray, List.set_cons_zero, List.set_cons_succ]
                  iterate 2
                    refine plan_take (v := ?_) rfl (by rfl) ?_ ?_
                    rotate_left
                    · intro w2 hSw
                      have z0 := (UX.out _ hSw).cell (j := 0) rfl
                      have z1 := (UX.out _ hSw).cell (j := 1) rfl
                      have z2 := (UX.out _ hSw).cell (j := 2) rfl
                      clear hSw
                      go_simp
                      try with_reducible rfl
                    try simp only [Act.put, List.setIfInBounds_toArray, List.set_cons_zero, List.set_cons_succ]
                  refine plan_move rfl (by rfl) (fun K hK => ?_)
                  obtain ⟨cs9, hc9, hr9⟩ := hH.out.row
                  refine wp_store_row 63 _ _ rfl g4 63 [.string ⟨JU.host.toArray⟩, .int .i64 JU.port, .string ⟨JU.path.toArray⟩] cs9 rfl rfl hr9 (by rw [hc9]; rfl) (by kernel_rfl) uri_one ?_
                  intro w9 hq9 ho9
                  refine hK.out _ _ (hH.out.stored ho9 hq9 rfl) ?_
                  have HQ9 := Lib.hid hq9
                  have HB9 := Lib.hid (BX.out _ (hH.out.stored ho9 hq9 rfl))
                  clear hH hK K hq9 ho9 hc9 hr9
                  intro hH
                  try simp only [Act.put]
                  iterate 1
                    refine plan_take (v := ?_) rfl (by rfl) ?_ ?_
                    rotate_left
                    · intro w2 hSw
                      have z0 := (UX.out _ hSw).cell (j := 0) rfl
                      have z1 := (UX.out _ hSw).cell (j := 1) rfl
                      have z2 := (UX.out _ hSw).cell (j := 2) rfl
                      clear hSw
                      go_simp
                      try with_reducible rfl
                    try simp only [Act.put, List.setIfInBounds_toArray, List.set_cons_zero, List.set_cons_succ]
                  refine plan_done ?_
                  have q0 := HQ9.out.cell (j := 0) rfl
                  have q1 := HQ9.out.cell (j := 1) rfl
                  have q2 := HQ9.out.cell (j := 2) rfl
                  go_wp2_with fail
                  exact bodyPost_ret (v := .tuple #[.agg #[.string ⟨JU.host.toArray⟩, .int .i64 JU.port, .string ⟨JU.path.toArray⟩], .int .i64 JE]) (by simp [results, Tryd.results39, go_sem, q0, q1, q2]) rfl ⟨by rw [HUJ.out]; rfl, HB9.out⟩
end Go.Proofs.YtaddefjkjlkjnaaDoor
