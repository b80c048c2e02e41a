/- Layer 5's laws: TargetDots, walked. Condition: the world's shape. -/
import Derived.Test.YtaddefjkjlkjnaaDoorLaw05d
namespace Go.Proofs.YtaddefjkjlkjnaaDoor
open Go.RowKit IH
set_option maxRecDepth 100000
theorem one_octet (P : ByteArray) (k : Nat) (h : k < P.size) : (P.extract k (k + 1)).data.toList = [P[k]] := by
  rw [Lib.extract_data, Nat.add_sub_cancel_left]
  have := data_split P k h
  rw [this, List.drop_left' (by rw [List.length_take, data_len]; omega)]
  rfl
theorem good_cut {seg r : List UInt8} {c : UInt8} (h : IH.Good seg (c :: r) false) (hc : c = 47 ∨ c = 63) : dots seg = false ∧ IH.Good [] r (c == 63) := by
  unfold IH.Good at h
  rwa [if_pos ⟨rfl, hc⟩] at h
theorem good_on {seg r : List UInt8} {c : UInt8} {q : Bool} (h : IH.Good seg (c :: r) q) (hc : ¬ (q = false ∧ (c = 47 ∨ c = 63))) : IH.Good (seg ++ [c]) r q := by
  unfold IH.Good at h
  rwa [if_neg hc] at h
theorem good_end {seg : List UInt8} (h : IH.Good seg [] false) : dots seg = false := by
  unfold IH.Good at h
  exact h.resolve_left (by simp)
set_option maxHeartbeats 64000000 in
theorem tdots_walk (w : World) (hsh : w.ShapedOpen Tryd.prog) (s : ByteArray) (_hs : s.size ≤ maxLen) :
    Calls Tryd.prog 14 #[.string s] w fun e w' => e = .returned (.bool true) ∧ Below w.heap.size w w' := by
  have AW := Lib.hid (fun (W : World) (hW : Below w.heap.size w W) => awake05_any W (shaped_below hsh hW))
  have H0 : Hid (Held w w []) := Lib.hid (Held.start w)
  by_cases hh0 : 4000 < s.size
  · have hI0 : (4000 : Int) < (s.size : Int) := by omega
    clear hsh
    go_enter Tryd.func14, Tryd.ntmps14
    go_wp2_with (first
      | (go_at_call 36; refine (AW.out _ H0.out.below).mono ?_; rintro e w1 ⟨rfl, hb1⟩; have H1 := Lib.hid (H0.out.step hb1); clear hb1)
      | (go_at_call 36; refine (AW.out _ H1.out.below).mono ?_; rintro e w2 ⟨rfl, hb2⟩; have H2 := Lib.hid (H1.out.step hb2); clear hb2))
    go_ret
    exact ⟨rfl, H2.out.below⟩
  have hI0 : ¬ ((4000 : Int) < (s.size : Int)) := by omega
  have hsl : s.data.toList.length ≤ 4000 := by rw [data_len]; omega
  have PA := fun (W : World) (hW : Below w.heap.size w W) => of5_any s ⟨#[97]⟩ (by omega) (by decide) W (shaped_below hsh hW)
  rw [show (⟨#[97]⟩ : ByteArray).data.toList = [97] from rfl] at PA
  obtain ⟨J, hJ⟩ : ∃ J, ofU s.data.toList [97] = J := ⟨_, rfl⟩
  rw [hJ] at PA
  obtain ⟨UU, UE⟩ := J
  simp only [uriC] at PA
  have HJ := Lib.hid hJ
  replace PA := Lib.hid PA
  clear hsh hJ hh0
  go_enter Tryd.func14, Tryd.ntmps14
  go_upto_region 4 with (first
    | (go_at_call 36; refine (AW.out _ H0.out.below).mono ?_; rintro e w1 ⟨rfl, hb1⟩; have H1 := Lib.hid (H0.out.step hb1); clear hb1)
    | (go_at_call 42; refine (PA.out _ H1.out.below).mono ?_; rintro e w3 ⟨rfl, hb3⟩; have H3 := Lib.hid (H1.out.step hb3); clear hb3; obtain ⟨g3, hg3⟩ : ∃ g, w3.heap.size = g := ⟨_, rfl⟩; obtain ⟨v3, hv3⟩ : ∃ V, w3.alloc (.cells zeroC.toArray 63) = V := ⟨_, rfl⟩; have Z3 : Hid (RowAt v3 g3 63 zeroC) := Lib.hid (by rw [← hv3, ← hg3]; exact RowAt.new w3 _ _); have N3 : Hid (Res g3 w3 v3) := Lib.hid (by rw [← hv3, ← hg3]; exact Res.start w3); rw [show zeroC.toArray = #[.string ⟨#[]⟩, .int .i64 0, .string ⟨#[]⟩] from rfl] at hv3)
    | (refine wpList_store_row rfl 63 _ _ rfl g3 63 [.string ⟨UU.host.toArray⟩, .int .i64 UU.port, .string ⟨UU.path.toArray⟩] zeroC rfl rfl Z3.out rfl (by kernel_rfl) uri_one ?_; intro w4 hq4 ho4; have H4 := Lib.hid (H3.out.add (by rw [hg3]; exact (N3.out.stored ho4 hq4 rfl).below) hq4); clear Z3 N3 H3 ho4 hq4 hg3 hv3))
  clear H0 H1 PA AW
  by_cases hz : UE = 0
  · subst hz
    obtain ⟨hgood, hpct, hhead⟩ := dots_of HJ.out
    obtain ⟨_, hlen⟩ := ofU_normal HJ.out
    have V0 := H4.out.get (.head _); have y0 := V0.cell (j := 0) rfl; have y1 := V0.cell (j := 1) rfl; have y2 := V0.cell (j := 2) rfl; have y9 := V0.lt; clear V0
    have B4 := Lib.hid H4.out.below
    obtain ⟨P, hP⟩ : ∃ B : ByteArray, (⟨UU.path.toArray⟩ : ByteArray) = B := ⟨_, rfl⟩
    have hPl : P.data.toList = UU.path := by rw [← hP]
    have hPs : P.size ≤ 10000 := by rw [← data_len, hPl]; simp only [List.length_cons, List.length_nil] at hlen; omega
    rw [← hPl] at hgood hpct hhead
    rw [hP] at y2
    have HP : Hid (∀ (k : Nat) (h : k < P.size), P[k] = 37 → k + 3 ≤ P.size ∧ ∀ W, Calls Tryd.prog 47 #[.string (P.extract k (k + 3)), .bool true] W fun e w' => e = .returned (.tuple #[.string (P.extract k (k + 3)), .bool true]) ∧ Below W.heap.size W w') := Lib.hid (by
      intro k hk h37
      obtain ⟨a, b, r, h1, h2⟩ := hpct k (by rw [get_data P k hk, h37])
      have hl := congrArg List.length h1
      rw [List.length_drop, data_len] at hl
      simp only [List.length_cons] at hl
      refine ⟨by omega, fun W => ?_⟩
      have he : (P.extract k (k + 3)).data.toList = [37, a, b] := by rw [Lib.extract_data, h1, Nat.add_sub_cancel_left]; rfl
      have hC := refCoded5_any (P.extract k (k + 3)) (by rw [← data_len, he]; simp) true W
      rw [he, h2, Option.getD_some, Option.isSome_some, ← he] at hC
      rwa [Lib.mk_data] at hC)
    have HG := Lib.hid hgood
    have hp0 : ∃ h : 0 < P.size, P[0] = 47 := by
      have h0 : 0 < P.size := by
        rw [← data_len]
        cases hq : P.data.toList with
        | nil => rw [hq] at hhead; cases hhead
        | cons a r => simp
      refine ⟨h0, ?_⟩
      rw [List.head?_eq_getElem?, get_data P 0 h0] at hhead
      exact Option.some.inj hhead
    obtain ⟨hp1, hp2⟩ := hp0
    clear hgood hpct hhead hlen hsl hPl hP HJ
    go_upto_block 0 with fail
    go_wp2_with fail
    go_loopw [6, 7, 8, 9, 10] (fun s6 s7 s8 _ _ wr => ∃ (k : Nat) (S : ByteArray) (q : Bool), s6 = .string S ∧ s8 = .int .i64 k ∧ s7 = .bool q ∧ S.size ≤ k ∧ (k = P.size + 1 ∨ (k ≤ P.size ∧ IH.Good S.data.toList (P.data.toList.drop k) q)) ∧ Below w.heap.size w wr) (fun _ _ s8 _ _ _ => P.size + 1 - (intOf s8).toNat)
    case atStart => exact ⟨0, ⟨#[]⟩, false, rfl, rfl, rfl, Nat.le_refl _, .inr ⟨by omega, HG.out⟩, B4.out⟩
    case round =>
      obtain ⟨k, S, q, rfl, rfl, rfl, hSz, hor, hb5⟩ := hrel
      have B5 := Lib.hid hb5
      clear hb5
      rcases hor with hk | ⟨hk, hg⟩
      · have kI : ¬ ((k : Int) ≤ (P.size : Int)) := by omega
        have p0I : (0 : Int) < (P.size : Int) := by omega
        have e47 : (((47 : UInt8).toNat : Int) == 47) = true := by decide
        go_wp2_with fail
        go_ret
        exact ⟨rfl, B5.out⟩
      · have kI : (k : Int) ≤ (P.size : Int) := by omega
        have w1 : IntKind.i64.wrap ((k : Int) + 1) = (k : Int) + 1 := IntWalk.i64_in _ ⟨by omega, by omega⟩
        have w2 : IntKind.i64.wrap ((k : Int) + 2) = (k : Int) + 2 := IntWalk.i64_in _ ⟨by omega, by omega⟩
        have w3 : IntKind.i64.wrap ((k : Int) + 3) = (k : Int) + 3 := IntWalk.i64_in _ ⟨by omega, by omega⟩
        have k0 : (0 : Int) ≤ (k : Int) := by omega
        go_upto_region 12 with fail
        have t1 : ((k : Int) + 1).toNat = k + 1 := by omega
        have t3 : ((k : Int) + 3).toNat = k + 3 := by omega
        by_cases hkE : k = P.size
        · have kE : ((k : Int) == (P.size : Int)) = true := by rw [beq_iff_eq]; omega
          have kL : ¬ ((k : Int) < (P.size : Int)) := by omega
          cases q with
          | true =>
            clear hg
            refine wp_region_seq ?_
            iterate 5
              refine seq_take (v := ?_) (wanted_un rfl) ?_ ?_
              rotate_left
              · go_simp
                try with_reducible rfl
              try simp only [Act.put, List.setIfInBounds_toArray, List.set_cons_zero, List.set_cons_succ]
            iterate 3
              refine seq_skip (wanted_no rfl rfl rfl rfl) ?_
              try simp only [Act.put, List.setIfInBounds_toArray, List.set_cons_zero, List.set_cons_succ]
            iterate 10
              refine seq_skip (wanted_und rfl rfl rfl rfl) ?_
              try simp only [Act.put, List.setIfInBounds_toArray, List.set_cons_zero, List.set_cons_succ]
            iterate 1
              refine seq_skip (wanted_no rfl rfl rfl rfl) ?_
              try simp only [Act.put, List.setIfInBounds_toArray, List.set_cons_zero, List.set_cons_succ]
            iterate 1
              refine seq_take (v := ?_) (wanted_un rfl) ?_ ?_
              rotate_left
              · go_simp
                try with_reducible rfl
              try simp only [Act.put, List.setIfInBounds_toArray, List.set_cons_zero, List.set_cons_succ]
            refine seq_done ?_
            skip
            go_upto_region 13 with fail
            refine wp_region_seq ?_
            iterate 3
              refine seq_take (v := ?_) (wanted_un rfl) ?_ ?_
              rotate_left
              · go_simp
                try with_reducible rfl
              try simp only [Act.put, List.setIfInBounds_toArray, List.set_cons_zero, List.set_cons_succ]
            iterate 3
              refine seq_skip (wanted_no rfl rfl rfl rfl) ?_
              try simp only [Act.put, List.setIfInBounds_toArray, List.set_cons_zero, List.set_cons_succ]
            iterate 2
              refine seq_skip (wanted_und rfl rfl rfl rfl) ?_
              try simp only [Act.put, List.setIfInBounds_toArray, List.set_cons_zero, List.set_cons_succ]
            iterate 1
              refine seq_skip (wanted_no rfl rfl rfl rfl) ?_
              try simp only [Act.put, List.setIfInBounds_toArray, List.set_cons_zero, List.set_cons_succ]
            iterate 1
              refine seq_take (v := ?_) (wanted_un rfl) ?_ ?_
              rotate_left
              · go_simp
                try with_reducible rfl
              try simp only [Act.put, List.setIfInBounds_toArray, List.set_cons_zero, List.set_cons_succ]
            refine seq_done ?_
            skip
            go_upto_region 16 with fail
            refine wp_region_seq ?_
            iterate 2
              refine seq_take (v := ?_) (wanted_un rfl) ?_ ?_
              rotate_left
              · go_simp
                try with_reducible rfl
              try simp only [Act.put, List.setIfInBounds_toArray, List.set_cons_zero, List.set_cons_succ]
            iterate 5
              refine seq_skip (wanted_no rfl rfl rfl rfl) ?_
              try simp only [Act.put, List.setIfInBounds_toArray, List.set_cons_zero, List.set_cons_succ]
            iterate 4
              refine seq_skip (wanted_und rfl rfl rfl rfl) ?_
              try simp only [Act.put, List.setIfInBounds_toArray, List.set_cons_zero, List.set_cons_succ]
            iterate 1
              refine seq_skip (wanted_no rfl rfl rfl rfl) ?_
              try simp only [Act.put, List.setIfInBounds_toArray, List.set_cons_zero, List.set_cons_succ]
            iterate 2
              refine seq_take (v := ?_) (wanted_un rfl) ?_ ?_
              rotate_left
              · go_simp
                try with_reducible rfl
              try simp only [Act.put, List.setIfInBounds_toArray, List.set_cons_zero, List.set_cons_succ]
            refine seq_done ?_
            skip
            go_wp2_with fail
            go_roundw
            case rel => exact ⟨k + 1, ⟨#[]⟩, _, rfl, by go_num, rfl, Nat.zero_le _, .inl (by omega), B5.out⟩
            case measure => simp [intOf]; omega
          | false =>
            have HD : Hid (dots S.data.toList = false) := Lib.hid (good_end (by rw [List.drop_eq_nil_of_le (by rw [data_len]; omega)] at hg; exact hg))
            clear hg
            have e1 : (S.toList == [46]) = false := by
              have := HD.out
              unfold dots at this
              rw [Bool.or_eq_false_iff] at this
              rw [ByteArray.toList_eq]
              exact this.1
            have e2 : (S.toList == [46, 46]) = false := by
              have := HD.out
              unfold dots at this
              rw [Bool.or_eq_false_iff] at this
              rw [ByteArray.toList_eq]
              exact this.2
            clear HD
            refine wp_region_seq ?_
            iterate 5
              refine seq_take (v := ?_) (wanted_un rfl) ?_ ?_
              rotate_left
              · go_simp
                try with_reducible rfl
              try simp only [Act.put, List.setIfInBounds_toArray, List.set_cons_zero, List.set_cons_succ]
            iterate 3
              refine seq_skip (wanted_no rfl rfl rfl rfl) ?_
              try simp only [Act.put, List.setIfInBounds_toArray, List.set_cons_zero, List.set_cons_succ]
            iterate 10
              refine seq_skip (wanted_und rfl rfl rfl rfl) ?_
              try simp only [Act.put, List.setIfInBounds_toArray, List.set_cons_zero, List.set_cons_succ]
            iterate 1
              refine seq_skip (wanted_no rfl rfl rfl rfl) ?_
              try simp only [Act.put, List.setIfInBounds_toArray, List.set_cons_zero, List.set_cons_succ]
            iterate 1
              refine seq_take (v := ?_) (wanted_un rfl) ?_ ?_
              rotate_left
              · go_simp
                try with_reducible rfl
              try simp only [Act.put, List.setIfInBounds_toArray, List.set_cons_zero, List.set_cons_succ]
            refine seq_done ?_
            skip
            go_upto_region 13 with fail
            refine wp_region_seq ?_
            iterate 3
              refine seq_take (v := ?_) (wanted_un rfl) ?_ ?_
              rotate_left
              · go_simp
                try with_reducible rfl
              try simp only [Act.put, List.setIfInBounds_toArray, List.set_cons_zero, List.set_cons_succ]
            iterate 6
              refine seq_take (v := ?_) (wanted_yes rfl rfl rfl rfl) ?_ ?_
              rotate_left
              · go_simp
                try with_reducible rfl
              try simp only [Act.put, List.setIfInBounds_toArray, List.set_cons_zero, List.set_cons_succ]
            iterate 1
              refine seq_take (v := ?_) (wanted_un rfl) ?_ ?_
              rotate_left
              · go_simp
                try with_reducible rfl
              try simp only [Act.put, List.setIfInBounds_toArray, List.set_cons_zero, List.set_cons_succ]
            refine seq_done ?_
            skip
            go_upto_region 16 with fail
            refine wp_region_seq ?_
            iterate 2
              refine seq_take (v := ?_) (wanted_un rfl) ?_ ?_
              rotate_left
              · go_simp
                try with_reducible rfl
              try simp only [Act.put, List.setIfInBounds_toArray, List.set_cons_zero, List.set_cons_succ]
            iterate 5
              refine seq_take (v := ?_) (wanted_yes rfl rfl rfl rfl) ?_ ?_
              rotate_left
              · go_simp
                try with_reducible rfl
              try simp only [Act.put, List.setIfInBounds_toArray, List.set_cons_zero, List.set_cons_succ]
            iterate 4
              refine seq_skip (wanted_no rfl rfl rfl rfl) ?_
              try simp only [Act.put, List.setIfInBounds_toArray, List.set_cons_zero, List.set_cons_succ]
            iterate 1
              refine seq_take (v := ?_) (wanted_yes rfl rfl rfl rfl) ?_ ?_
              rotate_left
              · go_simp
                try with_reducible rfl
              try simp only [Act.put, List.setIfInBounds_toArray, List.set_cons_zero, List.set_cons_succ]
            iterate 2
              refine seq_take (v := ?_) (wanted_un rfl) ?_ ?_
              rotate_left
              · go_simp
                try with_reducible rfl
              try simp only [Act.put, List.setIfInBounds_toArray, List.set_cons_zero, List.set_cons_succ]
            refine seq_done ?_
            skip
            go_wp2_with fail
            go_roundw
            case rel => exact ⟨k + 1, ⟨#[]⟩, _, rfl, by go_num, rfl, Nat.zero_le _, .inl (by omega), B5.out⟩
            case measure => simp [intOf]; omega
        · have hks : k < P.size := by omega
          have kE : ((k : Int) == (P.size : Int)) = false := by rw [beq_eq_false_iff_ne]; omega
          have kL : (k : Int) < (P.size : Int) := by omega
          have k1I : (k : Int) + 1 ≤ (P.size : Int) := by omega
          have kk1 : (k : Int) ≤ (k : Int) + 1 := by omega
          have kk3 : (k : Int) ≤ (k : Int) + 3 := by omega
          have k10 : (0 : Int) ≤ (k : Int) + 1 := by omega
          have k30 : (0 : Int) ≤ (k : Int) + 3 := by omega
          obtain ⟨c, hc⟩ : ∃ c, P[k] = c := ⟨_, rfl⟩
          rw [data_drop P k hks, hc] at hg
          cases q with
          | true =>
            have HG1 := Lib.hid (good_on hg (by simp))
            clear hg
            refine wp_region_seq ?_
            iterate 5
              refine seq_take (v := ?_) (wanted_un rfl) ?_ ?_
              rotate_left
              · go_simp
                try with_reducible rfl
              try simp only [Act.put, List.setIfInBounds_toArray, List.set_cons_zero, List.set_cons_succ]
            iterate 3
              refine seq_take (v := ?_) (wanted_yes rfl rfl rfl rfl) ?_ ?_
              rotate_left
              · go_simp
                try with_reducible rfl
              try simp only [Act.put, List.setIfInBounds_toArray, List.set_cons_zero, List.set_cons_succ]
            iterate 5
              refine seq_skip (wanted_no rfl rfl rfl rfl) ?_
              try simp only [Act.put, List.setIfInBounds_toArray, List.set_cons_zero, List.set_cons_succ]
            iterate 4
              refine seq_skip (wanted_und rfl rfl rfl rfl) ?_
              try simp only [Act.put, List.setIfInBounds_toArray, List.set_cons_zero, List.set_cons_succ]
            iterate 1
              refine seq_skip (wanted_no rfl rfl rfl rfl) ?_
              try simp only [Act.put, List.setIfInBounds_toArray, List.set_cons_zero, List.set_cons_succ]
            iterate 1
              refine seq_take (v := ?_) (wanted_yes rfl rfl rfl rfl) ?_ ?_
              rotate_left
              · go_simp
                try with_reducible rfl
              try simp only [Act.put, List.setIfInBounds_toArray, List.set_cons_zero, List.set_cons_succ]
            iterate 1
              refine seq_take (v := ?_) (wanted_un rfl) ?_ ?_
              rotate_left
              · go_simp
                try with_reducible rfl
              try simp only [Act.put, List.setIfInBounds_toArray, List.set_cons_zero, List.set_cons_succ]
            refine seq_done ?_
            skip
            by_cases h37 : c = 37
            · subst h37
              obtain ⟨hk3, HC⟩ := HP.out k hks hc
              have h3I : ¬ ((P.size : Int) ≤ (k : Int) + 2) := by omega
              have h3J : (k : Int) + 3 ≤ (P.size : Int) := by omega
              have e37 : (((37 : UInt8).toNat : Int) != 37) = false := by decide
              have HCC := Lib.hid HC
              clear HC
              go_upto_region 22 with (go_at_call 47; refine (HCC.out _).mono ?_; rintro e w6 ⟨rfl, hb6⟩; have B6 := Lib.hid (below_step B5.out hb6); clear hb6)
              have ex : ((P.extract k (k + 3)).toList != (P.extract k (k + 3)).toList) = false := by simp
              go_wp2_with fail
              go_roundw
              case rel => exact ⟨k + 1, S ++ P.extract k (k + 1), true, rfl, by go_num, rfl, by rw [← data_len, append_data, one_octet P k hks, List.length_append, data_len]; simp; omega, .inr ⟨by omega, by rw [append_data, one_octet P k hks, hc]; exact HG1.out⟩, B6.out⟩
              case measure => simp [intOf]; omega
            · have e37' : ((c.toNat : Int) == 37) = false := by rw [byteLit c 37 37 rfl, beq_eq_false_iff_ne]; intro h; exact h37 (UInt8.toNat_inj.1 h)
              have e37 : ((c.toNat : Int) != 37) = true := by rw [bne, e37']; rfl
              go_wp2_with fail
              go_roundw
              case rel => exact ⟨k + 1, S ++ P.extract k (k + 1), true, rfl, by go_num, rfl, by rw [← data_len, append_data, one_octet P k hks, List.length_append, data_len]; simp; omega, .inr ⟨by omega, by rw [append_data, one_octet P k hks, hc]; exact HG1.out⟩, B5.out⟩
              case measure => simp [intOf]; omega
          | false =>
            by_cases h47 : c = 47
            · obtain ⟨hd1, hd2⟩ := good_cut hg (.inl h47)
              have HD := Lib.hid hd1
              rw [h47, show ((47 : UInt8) == 63) = false from rfl] at hd2
              have HG1 := Lib.hid hd2
              subst h47
              have e47 : (((47 : UInt8).toNat : Int) == 47) = true := by decide
              have e63 : (((47 : UInt8).toNat : Int) == 63) = false := by decide
              clear hg hd1 hd2
              have e1 : (S.toList == [46]) = false := by
                have := HD.out
                unfold dots at this
                rw [Bool.or_eq_false_iff] at this
                rw [ByteArray.toList_eq]
                exact this.1
              have e2 : (S.toList == [46, 46]) = false := by
                have := HD.out
                unfold dots at this
                rw [Bool.or_eq_false_iff] at this
                rw [ByteArray.toList_eq]
                exact this.2
              clear HD
              refine wp_region_seq ?_
              iterate 5
                refine seq_take (v := ?_) (wanted_un rfl) ?_ ?_
                rotate_left
                · go_simp
                  try with_reducible rfl
                try simp only [Act.put, List.setIfInBounds_toArray, List.set_cons_zero, List.set_cons_succ]
              iterate 8
                refine seq_take (v := ?_) (wanted_yes rfl rfl rfl rfl) ?_ ?_
                rotate_left
                · go_simp
                  try with_reducible rfl
                try simp only [Act.put, List.setIfInBounds_toArray, List.set_cons_zero, List.set_cons_succ]
              iterate 4
                refine seq_skip (wanted_no rfl rfl rfl rfl) ?_
                try simp only [Act.put, List.setIfInBounds_toArray, List.set_cons_zero, List.set_cons_succ]
              iterate 2
                refine seq_take (v := ?_) (wanted_yes rfl rfl rfl rfl) ?_ ?_
                rotate_left
                · go_simp
                  try with_reducible rfl
                try simp only [Act.put, List.setIfInBounds_toArray, List.set_cons_zero, List.set_cons_succ]
              iterate 1
                refine seq_take (v := ?_) (wanted_un rfl) ?_ ?_
                rotate_left
                · go_simp
                  try with_reducible rfl
                try simp only [Act.put, List.setIfInBounds_toArray, List.set_cons_zero, List.set_cons_succ]
              refine seq_done ?_
              skip
              go_upto_region 13 with fail
              refine wp_region_seq ?_
              iterate 3
                refine seq_take (v := ?_) (wanted_un rfl) ?_ ?_
                rotate_left
                · go_simp
                  try with_reducible rfl
                try simp only [Act.put, List.setIfInBounds_toArray, List.set_cons_zero, List.set_cons_succ]
              iterate 6
                refine seq_take (v := ?_) (wanted_yes rfl rfl rfl rfl) ?_ ?_
                rotate_left
                · go_simp
                  try with_reducible rfl
                try simp only [Act.put, List.setIfInBounds_toArray, List.set_cons_zero, List.set_cons_succ]
              iterate 1
                refine seq_take (v := ?_) (wanted_un rfl) ?_ ?_
                rotate_left
                · go_simp
                  try with_reducible rfl
                try simp only [Act.put, List.setIfInBounds_toArray, List.set_cons_zero, List.set_cons_succ]
              refine seq_done ?_
              skip
              go_upto_region 16 with fail
              refine wp_region_seq ?_
              iterate 2
                refine seq_take (v := ?_) (wanted_un rfl) ?_ ?_
                rotate_left
                · go_simp
                  try with_reducible rfl
                try simp only [Act.put, List.setIfInBounds_toArray, List.set_cons_zero, List.set_cons_succ]
              iterate 10
                refine seq_take (v := ?_) (wanted_yes rfl rfl rfl rfl) ?_ ?_
                rotate_left
                · go_simp
                  try with_reducible rfl
                try simp only [Act.put, List.setIfInBounds_toArray, List.set_cons_zero, List.set_cons_succ]
              iterate 2
                refine seq_take (v := ?_) (wanted_un rfl) ?_ ?_
                rotate_left
                · go_simp
                  try with_reducible rfl
                try simp only [Act.put, List.setIfInBounds_toArray, List.set_cons_zero, List.set_cons_succ]
              refine seq_done ?_
              skip
              go_wp2_with fail
              go_roundw
              case rel => exact ⟨k + 1, ⟨#[]⟩, _, rfl, by go_num, rfl, Nat.zero_le _, .inr ⟨by omega, HG1.out⟩, B5.out⟩
              case measure => simp [intOf]; omega
            · have e47 : ((c.toNat : Int) == 47) = false := by rw [byteLit c 47 47 rfl, beq_eq_false_iff_ne]; intro h; exact h47 (UInt8.toNat_inj.1 h)
              by_cases h63 : c = 63
              · obtain ⟨hd1, hd2⟩ := good_cut hg (.inr h63)
                have HD := Lib.hid hd1
                rw [h63, show ((63 : UInt8) == 63) = true from rfl] at hd2
                have HG1 := Lib.hid hd2
                subst h63
                have e63 : (((63 : UInt8).toNat : Int) == 63) = true := by decide
                clear hg hd1 hd2
                have e1 : (S.toList == [46]) = false := by
                  have := HD.out
                  unfold dots at this
                  rw [Bool.or_eq_false_iff] at this
                  rw [ByteArray.toList_eq]
                  exact this.1
                have e2 : (S.toList == [46, 46]) = false := by
                  have := HD.out
                  unfold dots at this
                  rw [Bool.or_eq_false_iff] at this
                  rw [ByteArray.toList_eq]
                  exact this.2
                clear HD
                refine wp_region_seq ?_
                iterate 5
                  refine seq_take (v := ?_) (wanted_un rfl) ?_ ?_
                  rotate_left
                  · go_simp
                    try with_reducible rfl
                  try simp only [Act.put, List.setIfInBounds_toArray, List.set_cons_zero, List.set_cons_succ]
                iterate 14
                  refine seq_take (v := ?_) (wanted_yes rfl rfl rfl rfl) ?_ ?_
                  rotate_left
                  · go_simp
                    try with_reducible rfl
                  try simp only [Act.put, List.setIfInBounds_toArray, List.set_cons_zero, List.set_cons_succ]
                iterate 1
                  refine seq_take (v := ?_) (wanted_un rfl) ?_ ?_
                  rotate_left
                  · go_simp
                    try with_reducible rfl
                  try simp only [Act.put, List.setIfInBounds_toArray, List.set_cons_zero, List.set_cons_succ]
                refine seq_done ?_
                skip
                go_upto_region 13 with fail
                refine wp_region_seq ?_
                iterate 3
                  refine seq_take (v := ?_) (wanted_un rfl) ?_ ?_
                  rotate_left
                  · go_simp
                    try with_reducible rfl
                  try simp only [Act.put, List.setIfInBounds_toArray, List.set_cons_zero, List.set_cons_succ]
                iterate 6
                  refine seq_take (v := ?_) (wanted_yes rfl rfl rfl rfl) ?_ ?_
                  rotate_left
                  · go_simp
                    try with_reducible rfl
                  try simp only [Act.put, List.setIfInBounds_toArray, List.set_cons_zero, List.set_cons_succ]
                iterate 1
                  refine seq_take (v := ?_) (wanted_un rfl) ?_ ?_
                  rotate_left
                  · go_simp
                    try with_reducible rfl
                  try simp only [Act.put, List.setIfInBounds_toArray, List.set_cons_zero, List.set_cons_succ]
                refine seq_done ?_
                skip
                go_upto_region 16 with fail
                refine wp_region_seq ?_
                iterate 2
                  refine seq_take (v := ?_) (wanted_un rfl) ?_ ?_
                  rotate_left
                  · go_simp
                    try with_reducible rfl
                  try simp only [Act.put, List.setIfInBounds_toArray, List.set_cons_zero, List.set_cons_succ]
                iterate 10
                  refine seq_take (v := ?_) (wanted_yes rfl rfl rfl rfl) ?_ ?_
                  rotate_left
                  · go_simp
                    try with_reducible rfl
                  try simp only [Act.put, List.setIfInBounds_toArray, List.set_cons_zero, List.set_cons_succ]
                iterate 2
                  refine seq_take (v := ?_) (wanted_un rfl) ?_ ?_
                  rotate_left
                  · go_simp
                    try with_reducible rfl
                  try simp only [Act.put, List.setIfInBounds_toArray, List.set_cons_zero, List.set_cons_succ]
                refine seq_done ?_
                skip
                go_wp2_with fail
                go_roundw
                case rel => exact ⟨k + 1, ⟨#[]⟩, _, rfl, by go_num, rfl, Nat.zero_le _, .inr ⟨by omega, HG1.out⟩, B5.out⟩
                case measure => simp [intOf]; omega
              · have e63 : ((c.toNat : Int) == 63) = false := by rw [byteLit c 63 63 rfl, beq_eq_false_iff_ne]; intro h; exact h63 (UInt8.toNat_inj.1 h)
                have HG1 := Lib.hid (good_on hg (by simp [h47, h63]))
                clear hg h47 h63
                refine wp_region_seq ?_
                iterate 5
                  refine seq_take (v := ?_) (wanted_un rfl) ?_ ?_
                  rotate_left
                  · go_simp
                    try with_reducible rfl
                  try simp only [Act.put, List.setIfInBounds_toArray, List.set_cons_zero, List.set_cons_succ]
                iterate 14
                  refine seq_take (v := ?_) (wanted_yes rfl rfl rfl rfl) ?_ ?_
                  rotate_left
                  · go_simp
                    try with_reducible rfl
                  try simp only [Act.put, List.setIfInBounds_toArray, List.set_cons_zero, List.set_cons_succ]
                iterate 1
                  refine seq_take (v := ?_) (wanted_un rfl) ?_ ?_
                  rotate_left
                  · go_simp
                    try with_reducible rfl
                  try simp only [Act.put, List.setIfInBounds_toArray, List.set_cons_zero, List.set_cons_succ]
                refine seq_done ?_
                skip
                by_cases h37 : c = 37
                · subst h37
                  obtain ⟨hk3, HC⟩ := HP.out k hks hc
                  have h3I : ¬ ((P.size : Int) ≤ (k : Int) + 2) := by omega
                  have h3J : (k : Int) + 3 ≤ (P.size : Int) := by omega
                  have e37 : (((37 : UInt8).toNat : Int) != 37) = false := by decide
                  have HCC := Lib.hid HC
                  clear HC
                  go_upto_region 22 with (go_at_call 47; refine (HCC.out _).mono ?_; rintro e w6 ⟨rfl, hb6⟩; have B6 := Lib.hid (below_step B5.out hb6); clear hb6)
                  have ex : ((P.extract k (k + 3)).toList != (P.extract k (k + 3)).toList) = false := by simp
                  go_wp2_with fail
                  go_roundw
                  case rel => exact ⟨k + 1, S ++ P.extract k (k + 1), false, rfl, by go_num, rfl, by rw [← data_len, append_data, one_octet P k hks, List.length_append, data_len]; simp; omega, .inr ⟨by omega, by rw [append_data, one_octet P k hks, hc]; exact HG1.out⟩, B6.out⟩
                  case measure => simp [intOf]; omega
                · have e37' : ((c.toNat : Int) == 37) = false := by rw [byteLit c 37 37 rfl, beq_eq_false_iff_ne]; intro h; exact h37 (UInt8.toNat_inj.1 h)
                  have e37 : ((c.toNat : Int) != 37) = true := by rw [bne, e37']; rfl
                  go_wp2_with fail
                  go_roundw
                  case rel => exact ⟨k + 1, S ++ P.extract k (k + 1), false, rfl, by go_num, rfl, by rw [← data_len, append_data, one_octet P k hks, List.length_append, data_len]; simp; omega, .inr ⟨by omega, by rw [append_data, one_octet P k hks, hc]; exact HG1.out⟩, B5.out⟩
                  case measure => simp [intOf]; omega
  · have e0 : (UE == 0) = false := by rw [beq_eq_false_iff_ne]; exact hz
    have e1 : (UE != 0) = true := by rw [bne, e0]; rfl
    clear hz
    go_wp2_with fail
    go_ret
    exact ⟨rfl, H4.out.below⟩
end Go.Proofs.YtaddefjkjlkjnaaDoor
