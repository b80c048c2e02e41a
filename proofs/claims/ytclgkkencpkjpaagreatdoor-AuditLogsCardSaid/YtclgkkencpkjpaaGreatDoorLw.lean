/- Lw: several texts, one behind the other. -/
import Derived.Test.YtclgkkencpkjpaaGreatDoorLz
import Derived.Test.YtclgkkencpkjpaaGreatDoorKt
import Derived.Test.YtclgkkencpkjpaaGreatDoorFq
import Derived.Test.YtclgkkencpkjpaaGreatDoorOct8
import Derived.Test.YtclgkkencpkjpaaGreatDoorOct12
/- Walks of layer 6: a request's first line, by the document. Condition: at most 10^9 octets. -/
namespace Go.Proofs.YtclgkkencpkjpaaGreatDoor
open Go.RowKit IH
set_option maxRecDepth 100000
set_option maxHeartbeats 16000000 in
theorem rreq6_any (A : Option Addr) (n c : Nat) (l : List UInt8) (w : World) (hin : SliceIn w w.heap.size 1 A n c (bytesV l)) (hn : n ≤ 1000000000) :
    Calls Tryz.prog 111 #[.slice A n c] w fun e w' => e = .returned (.tuple #[.agg (staC (requestL l).1).toArray, .int .i64 (requestL l).2.1, .int .i64 (requestL l).2.2]) ∧ Below w.heap.size w w' := by
  obtain ⟨w1, hw1⟩ : ∃ W : World, w.alloc (.cells #[.string ⟨#[]⟩, .string ⟨#[]⟩, .int .i64 0, .string ⟨#[]⟩, .int .i64 0] 62) = W := ⟨_, rfl⟩
  have B1 : Hid (Below w.heap.size w w1) := Lib.hid (by rw [← hw1]; exact (Below.refl _ _).alloc (Nat.le_refl _) _)
  have Z1 : Hid (RowAt w1 w.heap.size 62 zeroS) := Lib.hid (by rw [← hw1]; exact RowAt.new w 62 zeroS)
  have HZi : Hid ((Tryz.prog.info? 62).map (·.size) = some 5) := Lib.hid (by kernel_rfl)
  have SL := rline6_any A n c w.heap.size l 8200 w1 (hin.below B1.out) hn (by omega)
  rw [show ((8200 : Nat) : Int) = 8200 from rfl] at SL
  obtain ⟨X, m, er, hL⟩ : ∃ X m e, lineS 8200 l = (X, m, e) := ⟨_, _, _, rfl⟩
  have hXl : X.length ≤ 1000000000 := by
    have h := lineS_len (most := 8200) (b := l)
    have hll : l.length = n := by have := hin.1; rw [bytesV_length] at this; omega
    rw [hL] at h
    exact Nat.le_trans h (by omega)
  rw [hL] at SL
  simp only at SL
  obtain ⟨R, hR⟩ : ∃ R, requestL l = R := ⟨_, rfl⟩
  rw [hR]
  have HR := Lib.hid hR
  have HL := Lib.hid hL
  obtain ⟨S, hS⟩ : ∃ S : ByteArray, (⟨X.toArray⟩ : ByteArray) = S := ⟨_, rfl⟩
  have hSd : S.data.toList = X := by rw [← hS]
  have hSz : S.size = X.length := by rw [← hS]; exact size_mk _
  rw [hS] at SL
  replace SL := Lib.hid SL
  clear hR hL hS hin
  by_cases he : er ≠ 0
  · have neb : (er != 0) = true := by rw [bne_iff_ne]; exact he
    have HT : Hid (R = (Sta.zero, 0, er)) := Lib.hid (by rw [← HR.out]; unfold requestL; rw [HL.out]; simp only; rw [if_pos he])
    go_enter Tryz.func111, Tryz.ntmps111
    go_wp2_with (first
      | (go_at_call 150; (with_reducible refine SL.out.mono ?_); rintro x2 w2 ⟨rfl, q2, hq2⟩; have hb2 : Below w1.heap.size w1 w2 := (by rw [hq2]; exact below_drewN (Below.refl _ _) _); clear hq2; have B2 := Lib.hid (below_step B1.out hb2); have Z2 := Lib.hid (Z1.out.below hb2 Z1.out.lt); clear hb2)
      | (refine wpList_store_row rfl 62 _ _ rfl w.heap.size _ zeroS zeroS rfl rfl Z2.out rfl HZi.out (by simp [zeroS, Value.oneCell']) ?_; intro wz hrz hoz; have RZ := Lib.hid hrz; have OZ := Lib.hid hoz; clear hrz hoz))
    exact bodyPost_ret (v := .tuple #[.agg (zeroS : List Value).toArray, .int .i64 0, .int .i64 er]) (results_cell_tmps Tryz.results111 _ wz ⟨w.heap.size, 0, none⟩ rfl (.agg (zeroS : List Value).toArray) (.int .i64 0) (.int .i64 er) rfl rfl (run_loadVar_mid wz w.heap.size 0 62 zeroS _ (rangeOf RZ.out) Tryz.underlying62 rfl HZi.out)) rfl ⟨by rw [HT.out]; rfl, OZ.out.below B2.out (Nat.le_refl _)⟩
  · obtain rfl : er = 0 := by omega
    have HQ : Hid (R = if (reqR X).2 ≠ 0 then (Sta.zero, 0, (reqR X).2) else ((reqR X).1, (m : Int), 0)) := Lib.hid (by rw [← HR.out]; unfold requestL; rw [HL.out, ← req_eq]; simp)
    have SC := fun w => space_any S (by omega) w
    rw [hSd] at SC
    clear he
    by_cases h1 : 32 ∈ X
    · have hcut := sp_cut h1
      obtain ⟨a, ha⟩ : ∃ a, spW X = a := ⟨_, rfl⟩
      obtain ⟨t, ht⟩ : ∃ a, spR X = a := ⟨_, rfl⟩
      have hC : reqR X = if 32 ∈ t then
        (match minorP (spR t) with
        | none => (Sta.zero, (10 : Int))
        | some m => if token a = true ∧ vis6 (spW t) = true then
            (if 32 < a.length ∨ 8000 < (spW t).length then (Sta.zero, 12) else (⟨a, spW t, 0, [], m⟩, 0)) else (Sta.zero, 10)) else (Sta.zero, 10) := by
        unfold reqR
        rw [ha, ht]
        by_cases h : 32 ∈ t
        · rw [if_pos ⟨h1, h⟩, if_pos h]; rfl
        · rw [if_neg (fun hh => h hh.2), if_neg h]
      rw [ha, ht] at hcut
      rw [ha] at SC
      obtain ⟨i1, hi1⟩ : ∃ i, a.length = i := ⟨_, rfl⟩
      rw [hi1] at SC
      obtain ⟨T, hT⟩ : ∃ T, S.extract (i1 + 1) S.size = T := ⟨_, rfl⟩
      obtain ⟨M, hM⟩ : ∃ T, S.extract 0 i1 = T := ⟨_, rfl⟩
      have hTd : T.data.toList = t := by
        rw [← hT, drop_data, hSd, hcut.1, ← hi1, ← List.drop_drop, List.drop_left' rfl]
        rfl
      have hMd : M.data.toList = a := by
        rw [← hM, take_data _ _ (by rw [hSz, hcut.1, ← hi1]; simp), hSd, hcut.1, ← hi1, List.take_left' rfl]
      have hXz : X.length = i1 + 1 + t.length := by rw [hcut.1, List.length_append, List.length_cons]; omega
      have hTz : T.size = t.length := by rw [← data_len, hTd]
      have k1 : ((i1 : Int) == (S.size : Int)) = false := by rw [beq_eq_false_iff_ne]; omega
      have k2 : IntKind.i64.wrap ((i1 : Int) + 1) = (i1 : Int) + 1 := IntWalk.i64_in _ ⟨by omega, by omega⟩
      have k3 : (i1 : Int) + 1 ≤ (S.size : Int) := by omega
      have k4 : (i1 : Int) ≤ (S.size : Int) := by omega
      have SC2 := fun w => space_any T (by omega) w
      rw [hTd] at SC2
      have HC := Lib.hid hC
      clear hC hcut ha ht h1
      by_cases h2 : 32 ∈ t
      · have hcut := sp_cut h2
        obtain ⟨b, hb⟩ : ∃ a, spW t = a := ⟨_, rfl⟩
        obtain ⟨c3, hc⟩ : ∃ a, spR t = a := ⟨_, rfl⟩
        rw [hb, hc] at hcut
        rw [hb] at SC2
        have HC2 := HC.out
        rw [if_pos h2, hb, hc] at HC2
        replace HC := Lib.hid HC2
        obtain ⟨i2, hi2⟩ : ∃ i, b.length = i := ⟨_, rfl⟩
        rw [hi2] at SC2
        obtain ⟨G, hG⟩ : ∃ x, T.extract 0 i2 = x := ⟨_, rfl⟩
        obtain ⟨V, hV⟩ : ∃ x, T.extract (i2 + 1) T.size = x := ⟨_, rfl⟩
        have hVd : V.data.toList = c3 := by
          rw [← hV, drop_data, hTd, hcut.1, ← hi2, ← List.drop_drop, List.drop_left' rfl]
          rfl
        have hGd : G.data.toList = b := by
          rw [← hG, take_data _ _ (by rw [hTz, hcut.1, ← hi2]; simp), hTd, hcut.1, ← hi2, List.take_left' rfl]
        have htz : t.length = i2 + 1 + c3.length := by rw [hcut.1, List.length_append, List.length_cons]; omega
        have j1 : ((i2 : Int) == (T.size : Int)) = false := by rw [beq_eq_false_iff_ne]; omega
        have j2 : IntKind.i64.wrap ((i2 : Int) + 1) = (i2 : Int) + 1 := IntWalk.i64_in _ ⟨by omega, by omega⟩
        have j3 : (i2 : Int) + 1 ≤ (T.size : Int) := by omega
        have j5 : (0 : Int) ≤ (i2 : Int) + 1 := by omega
        have j4 : (i2 : Int) ≤ (T.size : Int) := by omega
        have hMz : M.size = i1 := by rw [← data_len, hMd, hi1]
        have hGz : G.size = i2 := by rw [← data_len, hGd, hi2]
        have MI := fun w => rminor6_any V w
        have TK := fun w => refToken_big M (by omega) w
        have VI := fun w => rVisible_big G (by omega) w
        rw [hVd] at MI
        rw [hMd] at TK
        rw [hGd] at VI
        obtain ⟨mv, hmv⟩ : ∃ x, (minorP c3).getD (-1) = x := ⟨_, rfl⟩
        rw [hmv] at MI
        replace MI := Lib.hid MI
        replace TK := Lib.hid TK
        replace VI := Lib.hid VI
        replace SC := Lib.hid SC
        replace SC2 := Lib.hid SC2
        have HMd := Lib.hid hMd
        have HGd := Lib.hid hGd
        have HMV := Lib.hid hmv
        have HI1 := Lib.hid hi1
        have HI2 := Lib.hid hi2
        have HMz := Lib.hid hMz
        have HGz := Lib.hid hGz
        clear hcut hb hc h2 HC2 hSd hTd hMd hGd hVd hXl hmv hi1 hi2 hXz htz hSz hTz hMz hGz
        have tok1 : True := trivial
        go_enter Tryz.func111, Tryz.ntmps111
        go_upto_region 11 with (first
          | (go_at_call 150; (with_reducible refine SL.out.mono ?_); rintro x2 w2 ⟨rfl, q2, hq2⟩; have hb2 : Below w1.heap.size w1 w2 := (by rw [hq2]; exact below_drewN (Below.refl _ _) _); clear hq2; have B2 := Lib.hid (below_step B1.out hb2); have Z2 := Lib.hid (Z1.out.below hb2 Z1.out.lt); clear hb2)
          | (have _t := tok1; go_at_call 152; (with_reducible refine (SC.out _).mono ?_); rintro x3 w3 ⟨rfl, rfl⟩; clear tok1; have tok2 : True := trivial)
          | (have _t := tok2; go_at_call 152; (with_reducible refine (SC2.out _).mono ?_); rintro x4 w4 ⟨rfl, rfl⟩))
        go_cut [11] from 40 to 51 (fun s wx => ∃ g, s = .pointer (some ⟨g, 0, none⟩) ∧ RowAt wx g 62 [.string M, .string G, .int .i64 0, .string ⟨#[]⟩, .int .i64 mv] ∧ Below w2.heap.size w2 wx)
        case first =>
          refine wp_region_tree (fun W => Below w2.heap.size w2 W) (.take 0 (.take 1 (.take 2 (.take 3 (.take 4 (.take 5 (.take 6 (.take 7 (.take 8 (.take 9 (.node (.fork 10 (.take 11 (.node (.fork 12 (.node (.fork 13 (.done) (.stop))) (.stop)))) (.fork 12 (.node (.fork 10 (.take 11 (.node (.fork 13 (.done) (.stop)))) (.stop))) (.stop)))))))))))))) (by kernel_rfl) (by kernel_rfl) (of_decide_eq_true (by kernel_rfl)) rfl (by kernel_rfl) (below_drewN (Below.refl _ _) 1) ?_
          intro w1 hH
          iterate 10
            refine tree_take (v := ?_) rfl (by rfl) ?_ ?_
            rotate_left
            · intro w2 hSw
              clear hSw
              go_simp
              try with_reducible rfl
            try simp only [Act.put, List.setIfInBounds_toArray, List.set_cons_zero, List.set_cons_succ]
          refine tree_node ?_
          refine tree_move rfl (by rfl) (fun K hK => ?_) ?_
          · go_simp
            (with_reducible refine (MI.out _).mono ?_)
            rintro x5 w5 ⟨rfl, rfl⟩
            refine hK.out _ _ (hH.out) ?_
            clear hH hK K
            intro hH
            try simp only [Act.put, List.setIfInBounds_toArray, List.set_cons_zero, List.set_cons_succ]
            iterate 1
              refine tree_take (v := ?_) rfl (by rfl) ?_ ?_
              rotate_left
              · intro w2 hSw
                clear hSw
                go_simp
                try with_reducible rfl
              try simp only [Act.put, List.setIfInBounds_toArray, List.set_cons_zero, List.set_cons_succ]
            refine tree_node ?_
            refine tree_move rfl (by rfl) (fun K hK => ?_) ?_
            · go_simp
              refine hK.out _ _ (hH.out.alloc hH.out.size _) ?_
              have FB := Lib.hid (row_at hH 62 zeroS)
              have HG := Lib.hid hH.out.size
              clear hH hK K
              intro hH
              try simp only [Act.put, List.setIfInBounds_toArray, List.set_cons_zero, List.set_cons_succ]
              refine tree_node ?_
              refine tree_move rfl (by rfl) (fun K hK => ?_) ?_
              · refine wp_store_row 62 _ _ rfl _ _ [.string M, .string G, .int .i64 0, .string ⟨#[]⟩, .int .i64 mv] zeroS rfl rfl (row_size FB.out (by simp)) rfl HZi.out (by simp [Value.oneCell']) ?_
                intro w7 hr7 ho7
                refine hK.out _ _ (ho7.below hH.out (by have := HG.out; first | exact this | (simp at this; omega))) ?_
                have FR7 := Lib.hid hr7
                clear hK K hr7 ho7 FB HG
                intro hH
                try simp only [Act.put]
                refine tree_done ?_
                go_wp2_with fail
                go_meet
                exact ⟨_, rfl, FR7.out, hH.out⟩
              exact tree_stop
            exact tree_stop
          refine tree_move rfl (by rfl) (fun K hK => ?_) ?_
          · go_simp
            refine hK.out _ _ (hH.out.alloc hH.out.size _) ?_
            have FB := Lib.hid (row_at hH 62 zeroS)
            have HG := Lib.hid hH.out.size
            clear hH hK K
            intro hH
            try simp only [Act.put, List.setIfInBounds_toArray, List.set_cons_zero, List.set_cons_succ]
            refine tree_node ?_
            refine tree_move rfl (by rfl) (fun K hK => ?_) ?_
            · go_simp
              (with_reducible refine (MI.out _).mono ?_)
              rintro x5 w5 ⟨rfl, rfl⟩
              refine hK.out _ _ (hH.out) ?_
              clear hH hK K
              intro hH
              try simp only [Act.put, List.setIfInBounds_toArray, List.set_cons_zero, List.set_cons_succ]
              iterate 1
                refine tree_take (v := ?_) rfl (by rfl) ?_ ?_
                rotate_left
                · intro w2 hSw
                  clear hSw
                  go_simp
                  try with_reducible rfl
                try simp only [Act.put, List.setIfInBounds_toArray, List.set_cons_zero, List.set_cons_succ]
              refine tree_node ?_
              refine tree_move rfl (by rfl) (fun K hK => ?_) ?_
              · refine wp_store_row 62 _ _ rfl _ _ [.string M, .string G, .int .i64 0, .string ⟨#[]⟩, .int .i64 mv] zeroS rfl rfl (row_size FB.out (by simp)) rfl HZi.out (by simp [Value.oneCell']) ?_
                intro w7 hr7 ho7
                refine hK.out _ _ (ho7.below hH.out (by have := HG.out; first | exact this | (simp at this; omega))) ?_
                have FR7 := Lib.hid hr7
                clear hK K hr7 ho7 FB HG
                intro hH
                try simp only [Act.put]
                refine tree_done ?_
                go_wp2_with fail
                go_meet
                exact ⟨_, rfl, FR7.out, hH.out⟩
              exact tree_stop
            exact tree_stop
          exact tree_stop
        case rest =>
          obtain ⟨w3, hw3⟩ : ∃ x : World, x = wc := ⟨_, rfl⟩
          subst hw3
          obtain ⟨g, rfl, hx, hbx⟩ := hcut
          have X3 := Lib.hid hx
          have B3 := Lib.hid (below_step B2.out hbx)
          have Z3 := Lib.hid (Z2.out.below hbx Z2.out.lt)
          have d4 := hx.cell (j := 4) rfl
          have d0 := hx.cell (j := 0) rfl
          clear hx hbx hT hM hG hV
          cases hm : minorP c3 with
          | none =>
            have hneg : mv < 0 := by rw [← HMV.out, hm]; decide
            have HT : Hid (R = (Sta.zero, 0, 10)) := Lib.hid (by rw [HQ.out, HC.out]; rw [hm]; simp)
            go_wp2_with (first
              | (refine wpList_store_row rfl 62 _ _ rfl w.heap.size _ zeroS zeroS rfl rfl Z3.out rfl HZi.out (by simp [zeroS, Value.oneCell']) ?_; intro wz hrz hoz; have RZ := Lib.hid hrz; have OZ := Lib.hid hoz; clear hrz hoz))
            exact bodyPost_ret (v := .tuple #[.agg (zeroS : List Value).toArray, .int .i64 0, .int .i64 10]) (results_cell_tmps Tryz.results111 _ wz ⟨w.heap.size, 0, none⟩ rfl (.agg (zeroS : List Value).toArray) (.int .i64 0) (.int .i64 10) rfl rfl (run_loadVar_mid wz w.heap.size 0 62 zeroS _ (rangeOf RZ.out) Tryz.underlying62 rfl HZi.out)) rfl ⟨by rw [HT.out]; rfl, OZ.out.below B3.out (Nat.le_refl _)⟩
          | some mi =>
            have hmi : mv = mi := by rw [← HMV.out, hm]; rfl
            have hneg : ¬ mv < 0 := by rw [hmi]; rcases (minor_free hm).2.2 with h | h <;> omega
            have HMI := Lib.hid hmi
            clear hmi
            cases ht : token a with
            | false =>
              have TF := TK.out
              rw [ht] at TF
              replace TK := Lib.hid TF
              clear TF
              have HT : Hid (R = (Sta.zero, 0, 10)) := Lib.hid (by rw [HQ.out, HC.out]; rw [hm, ht]; simp)
              go_wp2_with (first
                | (go_at_call 18; (with_reducible refine (TK.out _).mono ?_); rintro x5 w5 ⟨rfl, hb5⟩; have B5 := Lib.hid (below_step B3.out hb5); have Z5 := Lib.hid (Z3.out.below hb5 Z3.out.lt); have X5 := Lib.hid (X3.out.below hb5 X3.out.lt); have e0 := X5.out.cell (j := 0) rfl; have e1 := X5.out.cell (j := 1) rfl; clear hb5)
                | (refine wpList_store_row rfl 62 _ _ rfl w.heap.size _ zeroS zeroS rfl rfl Z5.out rfl HZi.out (by simp [zeroS, Value.oneCell']) ?_; intro wz hrz hoz; have RZ := Lib.hid hrz; have OZ := Lib.hid hoz; clear hrz hoz))
              exact bodyPost_ret (v := .tuple #[.agg (zeroS : List Value).toArray, .int .i64 0, .int .i64 10]) (results_cell_tmps Tryz.results111 _ wz ⟨w.heap.size, 0, none⟩ rfl (.agg (zeroS : List Value).toArray) (.int .i64 0) (.int .i64 10) rfl rfl (run_loadVar_mid wz w.heap.size 0 62 zeroS _ (rangeOf RZ.out) Tryz.underlying62 rfl HZi.out)) rfl ⟨by rw [HT.out]; rfl, OZ.out.below B5.out (Nat.le_refl _)⟩
            | true =>
              have TF := TK.out
              rw [ht] at TF
              replace TK := Lib.hid TF
              clear TF
              cases hv : vis6 b with
              | false =>
                have VF := VI.out
                rw [hv] at VF
                replace VI := Lib.hid VF
                clear VF
                have HT : Hid (R = (Sta.zero, 0, 10)) := Lib.hid (by rw [HQ.out, HC.out]; rw [hm, ht, hv]; simp)
                go_wp2_with (first
                  | (go_at_call 18; (with_reducible refine (TK.out _).mono ?_); rintro x5 w5 ⟨rfl, hb5⟩; have B5 := Lib.hid (below_step B3.out hb5); have Z5 := Lib.hid (Z3.out.below hb5 Z3.out.lt); have X5 := Lib.hid (X3.out.below hb5 X3.out.lt); have e0 := X5.out.cell (j := 0) rfl; have e1 := X5.out.cell (j := 1) rfl; clear hb5)
                  | (go_at_call 135; (with_reducible refine (VI.out _).mono ?_); rintro x6 w6 ⟨rfl, rfl⟩)
                  | (refine wpList_store_row rfl 62 _ _ rfl w.heap.size _ zeroS zeroS rfl rfl Z5.out rfl HZi.out (by simp [zeroS, Value.oneCell']) ?_; intro wz hrz hoz; have RZ := Lib.hid hrz; have OZ := Lib.hid hoz; clear hrz hoz))
                exact bodyPost_ret (v := .tuple #[.agg (zeroS : List Value).toArray, .int .i64 0, .int .i64 10]) (results_cell_tmps Tryz.results111 _ wz ⟨w.heap.size, 0, none⟩ rfl (.agg (zeroS : List Value).toArray) (.int .i64 0) (.int .i64 10) rfl rfl (run_loadVar_mid wz w.heap.size 0 62 zeroS _ (rangeOf RZ.out) Tryz.underlying62 rfl HZi.out)) rfl ⟨by rw [HT.out]; rfl, OZ.out.below B5.out (Nat.le_refl _)⟩
              | true =>
                have VF := VI.out
                rw [hv] at VF
                replace VI := Lib.hid VF
                clear VF
                by_cases h32 : 32 < i1
                · have q1 : (32 : Int) < (M.size : Int) := by have := HMz.out; omega
                  have HT : Hid (R = (Sta.zero, 0, 12)) := Lib.hid (by rw [HQ.out, HC.out]; rw [hm, ht, hv, HI1.out, HI2.out]; simp [h32])
                  go_wp2_with (first
                    | (go_at_call 18; (with_reducible refine (TK.out _).mono ?_); rintro x5 w5 ⟨rfl, hb5⟩; have B5 := Lib.hid (below_step B3.out hb5); have Z5 := Lib.hid (Z3.out.below hb5 Z3.out.lt); have X5 := Lib.hid (X3.out.below hb5 X3.out.lt); have e0 := X5.out.cell (j := 0) rfl; have e1 := X5.out.cell (j := 1) rfl; clear hb5)
                    | (go_at_call 135; (with_reducible refine (VI.out _).mono ?_); rintro x6 w6 ⟨rfl, rfl⟩)
                    | (refine wpList_store_row rfl 62 _ _ rfl w.heap.size _ zeroS zeroS rfl rfl Z5.out rfl HZi.out (by simp [zeroS, Value.oneCell']) ?_; intro wz hrz hoz; have RZ := Lib.hid hrz; have OZ := Lib.hid hoz; clear hrz hoz))
                  exact bodyPost_ret (v := .tuple #[.agg (zeroS : List Value).toArray, .int .i64 0, .int .i64 12]) (results_cell_tmps Tryz.results111 _ wz ⟨w.heap.size, 0, none⟩ rfl (.agg (zeroS : List Value).toArray) (.int .i64 0) (.int .i64 12) rfl rfl (run_loadVar_mid wz w.heap.size 0 62 zeroS _ (rangeOf RZ.out) Tryz.underlying62 rfl HZi.out)) rfl ⟨by rw [HT.out]; rfl, OZ.out.below B5.out (Nat.le_refl _)⟩
                · have q1 : ¬ (32 : Int) < (M.size : Int) := by have := HMz.out; omega
                  by_cases h80 : 8000 < i2
                  · have q2 : (8000 : Int) < (G.size : Int) := by have := HGz.out; omega
                    have HT : Hid (R = (Sta.zero, 0, 12)) := Lib.hid (by rw [HQ.out, HC.out]; rw [hm, ht, hv, HI1.out, HI2.out]; simp [h80])
                    go_wp2_with (first
                      | (go_at_call 18; (with_reducible refine (TK.out _).mono ?_); rintro x5 w5 ⟨rfl, hb5⟩; have B5 := Lib.hid (below_step B3.out hb5); have Z5 := Lib.hid (Z3.out.below hb5 Z3.out.lt); have X5 := Lib.hid (X3.out.below hb5 X3.out.lt); have e0 := X5.out.cell (j := 0) rfl; have e1 := X5.out.cell (j := 1) rfl; clear hb5)
                      | (go_at_call 135; (with_reducible refine (VI.out _).mono ?_); rintro x6 w6 ⟨rfl, rfl⟩)
                      | (refine wpList_store_row rfl 62 _ _ rfl w.heap.size _ zeroS zeroS rfl rfl Z5.out rfl HZi.out (by simp [zeroS, Value.oneCell']) ?_; intro wz hrz hoz; have RZ := Lib.hid hrz; have OZ := Lib.hid hoz; clear hrz hoz))
                    exact bodyPost_ret (v := .tuple #[.agg (zeroS : List Value).toArray, .int .i64 0, .int .i64 12]) (results_cell_tmps Tryz.results111 _ wz ⟨w.heap.size, 0, none⟩ rfl (.agg (zeroS : List Value).toArray) (.int .i64 0) (.int .i64 12) rfl rfl (run_loadVar_mid wz w.heap.size 0 62 zeroS _ (rangeOf RZ.out) Tryz.underlying62 rfl HZi.out)) rfl ⟨by rw [HT.out]; rfl, OZ.out.below B5.out (Nat.le_refl _)⟩
                  · have q2 : ¬ (8000 : Int) < (G.size : Int) := by have := HGz.out; omega
                    have HT : Hid (R = (⟨a, b, 0, [], mv⟩, (m : Int), 0)) := Lib.hid (by rw [HQ.out, HC.out]; rw [hm, ht, hv, HI1.out, HI2.out, HMI.out]; simp [h32, h80])
                    go_wp2_with (first
                      | (go_at_call 18; (with_reducible refine (TK.out _).mono ?_); rintro x5 w5 ⟨rfl, hb5⟩; have B5 := Lib.hid (below_step B3.out hb5); have Z5 := Lib.hid (Z3.out.below hb5 Z3.out.lt); have X5 := Lib.hid (X3.out.below hb5 X3.out.lt); have e0 := X5.out.cell (j := 0) rfl; have e1 := X5.out.cell (j := 1) rfl; clear hb5)
                      | (go_at_call 135; (with_reducible refine (VI.out _).mono ?_); rintro x6 w6 ⟨rfl, rfl⟩)
                      | (refine wpList_load_g (wanted_un rfl) 62 _ rfl g 0 rfl [.string M, .string G, .int .i64 0, .string ⟨#[]⟩, .int .i64 mv] _ (rangeOf X5.out) Tryz.underlying62 rfl HZi.out ?_)
                      | (refine wpList_store_row rfl 62 _ _ rfl w.heap.size _ [.string M, .string G, .int .i64 0, .string ⟨#[]⟩, .int .i64 mv] zeroS rfl rfl Z5.out rfl HZi.out (by simp [Value.oneCell']) ?_; intro wz hrz hoz; have RZ := Lib.hid hrz; have OZ := Lib.hid hoz; clear hrz hoz))
                    exact bodyPost_ret (v := .tuple #[.agg ([.string M, .string G, .int .i64 0, .string ⟨#[]⟩, .int .i64 mv] : List Value).toArray, .int .i64 m, .int .i64 0]) (results_cell_tmps Tryz.results111 _ wz ⟨w.heap.size, 0, none⟩ rfl (.agg ([.string M, .string G, .int .i64 0, .string ⟨#[]⟩, .int .i64 mv] : List Value).toArray) (.int .i64 m) (.int .i64 0) rfl rfl (run_loadVar_mid wz w.heap.size 0 62 [.string M, .string G, .int .i64 0, .string ⟨#[]⟩, .int .i64 mv] _ (rangeOf RZ.out) Tryz.underlying62 rfl HZi.out)) rfl ⟨by rw [HT.out]; unfold staC; simp only; rw [← HMd.out, ← HGd.out], OZ.out.below B5.out (Nat.le_refl _)⟩
      · have hn : spW t = t := by
          have := tw_of (l := t) (k := t.length) (by rw [List.take_length]; intro c hc e; exact h2 (e ▸ hc)) (Nat.le_refl _) (.inr rfl)
          rw [List.take_length] at this; exact this
        rw [hn, ← hTz] at SC2
        have HT : Hid (R = (Sta.zero, 0, 10)) := Lib.hid (by rw [HQ.out, HC.out, if_neg h2]; simp)
        replace SC := Lib.hid SC
        replace SC2 := Lib.hid SC2
        have tok1 : True := trivial
        clear h2 hn hSd hTd hMd hXl hi1 hXz hSz hTz
        go_enter Tryz.func111, Tryz.ntmps111
        go_wp2_with (first
          | (go_at_call 150; (with_reducible refine SL.out.mono ?_); rintro x2 w2 ⟨rfl, q2, hq2⟩; have hb2 : Below w1.heap.size w1 w2 := (by rw [hq2]; exact below_drewN (Below.refl _ _) _); clear hq2; have B2 := Lib.hid (below_step B1.out hb2); have Z2 := Lib.hid (Z1.out.below hb2 Z1.out.lt); clear hb2)
          | (have _t := tok1; go_at_call 152; (with_reducible refine (SC.out _).mono ?_); rintro x3 w3 ⟨rfl, rfl⟩; clear tok1; have tok2 : True := trivial)
          | (have _t := tok2; go_at_call 152; (with_reducible refine (SC2.out _).mono ?_); rintro x4 w4 ⟨rfl, rfl⟩)
          | (refine wpList_store_row rfl 62 _ _ rfl w.heap.size _ zeroS zeroS rfl rfl Z2.out rfl HZi.out (by simp [zeroS, Value.oneCell']) ?_; intro wz hrz hoz; have RZ := Lib.hid hrz; have OZ := Lib.hid hoz; clear hrz hoz))
        exact bodyPost_ret (v := .tuple #[.agg (zeroS : List Value).toArray, .int .i64 0, .int .i64 10]) (results_cell_tmps Tryz.results111 _ wz ⟨w.heap.size, 0, none⟩ rfl (.agg (zeroS : List Value).toArray) (.int .i64 0) (.int .i64 10) rfl rfl (run_loadVar_mid wz w.heap.size 0 62 zeroS _ (rangeOf RZ.out) Tryz.underlying62 rfl HZi.out)) rfl ⟨by rw [HT.out]; rfl, OZ.out.below B2.out (Nat.le_refl _)⟩
    · have hn : spW X = X := by
        have := tw_of (l := X) (k := X.length) (by rw [List.take_length]; intro c hc e; exact h1 (e ▸ hc)) (Nat.le_refl _) (.inr rfl)
        rw [List.take_length] at this; exact this
      rw [hn, ← hSz] at SC
      have HT : Hid (R = (Sta.zero, 0, 10)) := Lib.hid (by
        rw [HQ.out]
        have hC : reqR X = (Sta.zero, 10) := by unfold reqR; rw [if_neg (fun h => h1 h.1)]
        rw [hC]; simp)
      replace SC := Lib.hid SC
      have tok1 : True := trivial
      clear h1 hn hSd hXl hSz
      go_enter Tryz.func111, Tryz.ntmps111
      go_wp2_with (first
        | (go_at_call 150; (with_reducible refine SL.out.mono ?_); rintro x2 w2 ⟨rfl, q2, hq2⟩; have hb2 : Below w1.heap.size w1 w2 := (by rw [hq2]; exact below_drewN (Below.refl _ _) _); clear hq2; have B2 := Lib.hid (below_step B1.out hb2); have Z2 := Lib.hid (Z1.out.below hb2 Z1.out.lt); clear hb2)
        | (have _t := tok1; go_at_call 152; (with_reducible refine (SC.out _).mono ?_); rintro x3 w3 ⟨rfl, rfl⟩; clear tok1; have tok2 : True := trivial)
        | (refine wpList_store_row rfl 62 _ _ rfl w.heap.size _ zeroS zeroS rfl rfl Z2.out rfl HZi.out (by simp [zeroS, Value.oneCell']) ?_; intro wz hrz hoz; have RZ := Lib.hid hrz; have OZ := Lib.hid hoz; clear hrz hoz))
      exact bodyPost_ret (v := .tuple #[.agg (zeroS : List Value).toArray, .int .i64 0, .int .i64 10]) (results_cell_tmps Tryz.results111 _ wz ⟨w.heap.size, 0, none⟩ rfl (.agg (zeroS : List Value).toArray) (.int .i64 0) (.int .i64 10) rfl rfl (run_loadVar_mid wz w.heap.size 0 62 zeroS _ (rangeOf RZ.out) Tryz.underlying62 rfl HZi.out)) rfl ⟨by rw [HT.out]; rfl, OZ.out.below B2.out (Nat.le_refl _)⟩
end Go.Proofs.YtclgkkencpkjpaaGreatDoor

/- Walks of layer 6: a response's first line, by the document. Condition: at most 10^9 octets. -/
namespace Go.Proofs.YtclgkkencpkjpaaGreatDoor
open Go.RowKit IH
set_option maxRecDepth 100000
set_option maxHeartbeats 16000000 in
theorem rresp6_any (A : Option Addr) (n c : Nat) (l : List UInt8) (w : World) (hin : SliceIn w w.heap.size 1 A n c (bytesV l)) (hn : n ≤ 1000000000) :
    Calls Tryz.prog 110 #[.slice A n c] w fun e w' => e = .returned (.tuple #[.agg (staC (responseL l).1).toArray, .int .i64 (responseL l).2.1, .int .i64 (responseL l).2.2]) ∧ Below w.heap.size w w' := by
  obtain ⟨w1, hw1⟩ : ∃ W : World, w.alloc (.cells #[.string ⟨#[]⟩, .string ⟨#[]⟩, .int .i64 0, .string ⟨#[]⟩, .int .i64 0] 62) = W := ⟨_, rfl⟩
  have B1 : Hid (Below w.heap.size w w1) := Lib.hid (by rw [← hw1]; exact (Below.refl _ _).alloc (Nat.le_refl _) _)
  have Z1 : Hid (RowAt w1 w.heap.size 62 zeroS) := Lib.hid (by rw [← hw1]; exact RowAt.new w 62 zeroS)
  have HZi : Hid ((Tryz.prog.info? 62).map (·.size) = some 5) := Lib.hid (by kernel_rfl)
  have SL := rline6_any A n c w.heap.size l 300 w1 (hin.below B1.out) hn (by omega)
  rw [show ((300 : Nat) : Int) = 300 from rfl] at SL
  obtain ⟨X, m, er, hL⟩ : ∃ X m e, lineS 300 l = (X, m, e) := ⟨_, _, _, rfl⟩
  have hXl : X.length ≤ 1000000000 := by
    have h := lineS_len (most := 300) (b := l)
    have hll : l.length = n := by have := hin.1; rw [bytesV_length] at this; omega
    rw [hL] at h
    exact Nat.le_trans h (by omega)
  rw [hL] at SL
  simp only at SL
  obtain ⟨R, hR⟩ : ∃ R, responseL l = R := ⟨_, rfl⟩
  rw [hR]
  have HR := Lib.hid hR
  have HL := Lib.hid hL
  obtain ⟨S, hS⟩ : ∃ S : ByteArray, (⟨X.toArray⟩ : ByteArray) = S := ⟨_, rfl⟩
  have hSd : S.data.toList = X := by rw [← hS]
  have hSz : S.size = X.length := by rw [← hS]; exact size_mk _
  rw [hS] at SL
  replace SL := Lib.hid SL
  clear hR hL hS hin
  by_cases he : er ≠ 0
  · have neb : (er != 0) = true := by rw [bne_iff_ne]; exact he
    have HT : Hid (R = (Sta.zero, 0, er)) := Lib.hid (by rw [← HR.out]; unfold responseL; rw [HL.out]; simp only; rw [if_pos he])
    go_enter Tryz.func110, Tryz.ntmps110
    go_wp2_with (first
      | (go_at_call 150; (with_reducible refine SL.out.mono ?_); rintro x2 w2 ⟨rfl, q2, hq2⟩; have hb2 : Below w1.heap.size w1 w2 := (by rw [hq2]; exact below_drewN (Below.refl _ _) _); clear hq2; have B2 := Lib.hid (below_step B1.out hb2); have Z2 := Lib.hid (Z1.out.below hb2 Z1.out.lt); clear hb2)
      | (refine wpList_store_row rfl 62 _ _ rfl w.heap.size _ zeroS zeroS rfl rfl Z2.out rfl HZi.out (by simp [zeroS, Value.oneCell']) ?_; intro wz hrz hoz; have RZ := Lib.hid hrz; have OZ := Lib.hid hoz; clear hrz hoz))
    exact bodyPost_ret (v := .tuple #[.agg (zeroS : List Value).toArray, .int .i64 0, .int .i64 er]) (results_cell_tmps Tryz.results110 _ wz ⟨w.heap.size, 0, none⟩ rfl (.agg (zeroS : List Value).toArray) (.int .i64 0) (.int .i64 er) rfl rfl (run_loadVar_mid wz w.heap.size 0 62 zeroS _ (rangeOf RZ.out) Tryz.underlying62 rfl HZi.out)) rfl ⟨by rw [HT.out]; rfl, OZ.out.below B2.out (Nat.le_refl _)⟩
  · obtain rfl : er = 0 := by omega
    have HQ : Hid (R = if (respR X).2 ≠ 0 then (Sta.zero, 0, (respR X).2) else ((respR X).1, (m : Int), 0)) := Lib.hid (by rw [← HR.out]; unfold responseL; rw [HL.out, ← resp_eq]; simp)
    clear he
    by_cases h13 : X.length < 13
    · have kk : (S.size : Int) < 13 := by omega
      have k1 := kk
      have HT : Hid (R = (Sta.zero, 0, 10)) := Lib.hid (by
        rw [HQ.out]
        have hC : respR X = (Sta.zero, 10) := by unfold respR; rw [if_pos (.inl h13)]
        rw [hC]; simp)
      go_enter Tryz.func110, Tryz.ntmps110
      go_wp2_with (first
        | (go_at_call 150; (with_reducible refine SL.out.mono ?_); rintro x2 w2 ⟨rfl, q2, hq2⟩; have hb2 : Below w1.heap.size w1 w2 := (by rw [hq2]; exact below_drewN (Below.refl _ _) _); clear hq2; have B2 := Lib.hid (below_step B1.out hb2); have Z2 := Lib.hid (Z1.out.below hb2 Z1.out.lt); clear hb2)
        | (refine wpList_store_row rfl 62 _ _ rfl w.heap.size _ zeroS zeroS rfl rfl Z2.out rfl HZi.out (by simp [zeroS, Value.oneCell']) ?_; intro wz hrz hoz; have RZ := Lib.hid hrz; have OZ := Lib.hid hoz; clear hrz hoz))
      exact bodyPost_ret (v := .tuple #[.agg (zeroS : List Value).toArray, .int .i64 0, .int .i64 10]) (results_cell_tmps Tryz.results110 _ wz ⟨w.heap.size, 0, none⟩ rfl (.agg (zeroS : List Value).toArray) (.int .i64 0) (.int .i64 10) rfl rfl (run_loadVar_mid wz w.heap.size 0 62 zeroS _ (rangeOf RZ.out) Tryz.underlying62 rfl HZi.out)) rfl ⟨by rw [HT.out]; rfl, OZ.out.below B2.out (Nat.le_refl _)⟩
    · have k1 : ¬ (S.size : Int) < 13 := by omega
      have z8 : 8 < S.size := by omega
      have z12 : 12 < S.size := by omega
      have i8 : (8 : Int) < (S.size : Int) := by omega
      have i12 : (12 : Int) < (S.size : Int) := by omega
      obtain ⟨c8, hc8⟩ : ∃ c, S[8] = c := ⟨_, rfl⟩
      obtain ⟨c12, hc12⟩ : ∃ c, S[12] = c := ⟨_, rfl⟩
      have g8 := get_data S 8 z8
      have g12 := get_data S 12 z12
      rw [hc8, hSd] at g8
      rw [hc12, hSd] at g12
      by_cases h8 : c8 = 32
      · subst h8
        have e1 : (((32 : UInt8).toNat : Int) == 32) = true := rfl
        have e2 : (((32 : UInt8).toNat : Int) != 32) = false := rfl
        by_cases h12 : c12 = 32
        · subst h12
          have hC : respR X = (match minorP (X.take 8) with
            | none => (Sta.zero, (10 : Int))
            | some m => if (numR 10 999 ((X.drop 9).take 3)).2 ≠ 0 ∨ (numR 10 999 ((X.drop 9).take 3)).1 < 100 ∨ value (X.drop 13) = false then (Sta.zero, 10)
              else if 200 < (X.drop 13).length then (Sta.zero, 12) else (⟨[], [], (numR 10 999 ((X.drop 9).take 3)).1, X.drop 13, m⟩, 0)) := by
            unfold respR
            rw [if_neg (by rintro (h | h | h); exact h13 h; exact h g8; exact h g12)]; rfl
          obtain ⟨N3, hN3⟩ : ∃ x, S.extract 9 12 = x := ⟨_, rfl⟩
          obtain ⟨V, hV⟩ : ∃ x, S.extract 0 8 = x := ⟨_, rfl⟩
          obtain ⟨Q, hQ⟩ : ∃ x, S.extract 13 S.size = x := ⟨_, rfl⟩
          have dN : N3.data.toList = (X.drop 9).take 3 := by rw [← hN3, Lib.extract_data, hSd]
          have dV : V.data.toList = X.take 8 := by rw [← hV, take_data _ _ (by omega), hSd]
          have dQ : Q.data.toList = X.drop 13 := by rw [← hQ, drop_data, hSd]
          have zN : N3.size = 3 := by rw [← data_len, dN, List.length_take, List.length_drop]; omega
          have zQ : Q.size = X.length - 13 := by rw [← data_len, dQ, List.length_drop]
          have NU := fun w => refNumber10_any N3 (by omega) 999 (by omega) (by omega) w
          have MI := fun w => rminor6_any V w
          have VA := fun w => refValue_any Q (by omega) w
          rw [dN] at NU
          rw [dV] at MI
          rw [dQ] at VA
          obtain ⟨nv, ne, hN⟩ : ∃ x y, numR 10 999 ((X.drop 9).take 3) = (x, y) := ⟨_, _, rfl⟩
          rw [hN] at NU hC
          simp only at NU
          obtain ⟨mv, hmv⟩ : ∃ x, (minorP (X.take 8)).getD (-1) = x := ⟨_, rfl⟩
          rw [hmv] at MI
          obtain ⟨D, hD⟩ : ∃ x, X.drop 13 = x := ⟨_, rfl⟩
          rw [hD] at VA hC dQ
          have zQD : Q.size = D.length := by rw [← data_len, dQ]
          have HC := Lib.hid hC
          have HMV := Lib.hid hmv
          have HDQ := Lib.hid dQ
          have x1 : (9 : Int) ≤ (S.size : Int) := by omega
          have x2 : (13 : Int) ≤ (S.size : Int) := by omega
          have x3 : (8 : Int) ≤ (S.size : Int) := by omega
          have x4 : (12 : Int) ≤ (S.size : Int) := by omega
          replace MI := Lib.hid MI
          replace VA := Lib.hid VA
          replace NU := Lib.hid NU
          clear hC g8 g12 dN dV dQ zN zQ hN hmv hD hSd hSz hXl h13
          go_enter Tryz.func110, Tryz.ntmps110
          go_upto_region 7 with (first
            | (go_at_call 150; (with_reducible refine SL.out.mono ?_); rintro x2 w2 ⟨rfl, q2, hq2⟩; have hb2 : Below w1.heap.size w1 w2 := (by rw [hq2]; exact below_drewN (Below.refl _ _) _); clear hq2; have B2 := Lib.hid (below_step B1.out hb2); have Z2 := Lib.hid (Z1.out.below hb2 Z1.out.lt); clear hb2)
            | (go_at_call 134; (with_reducible refine (NU.out _).mono ?_); rintro x4 w4 ⟨rfl, rfl⟩))
          go_cut [10] from 41 to 47 (fun s wx => ∃ g, s = .pointer (some ⟨g, 0, none⟩) ∧ RowAt wx g 62 [.string ⟨#[]⟩, .string ⟨#[]⟩, .int .i64 nv, .string Q, .int .i64 mv] ∧ Below w2.heap.size w2 wx)
          case first =>
            refine wp_region_tree (fun W => Below w2.heap.size w2 W) (.take 0 (.take 1 (.take 2 (.take 3 (.take 4 (.node (.fork 5 (.take 6 (.node (.fork 7 (.node (.fork 8 (.done) (.stop))) (.stop)))) (.fork 7 (.node (.fork 5 (.take 6 (.node (.fork 8 (.done) (.stop)))) (.stop))) (.stop))))))))) (by kernel_rfl) (by kernel_rfl) (of_decide_eq_true (by kernel_rfl)) rfl (by kernel_rfl) (below_drewN (Below.refl _ _) 1) ?_
            intro w1 hH
            iterate 5
              refine tree_take (v := ?_) rfl (by rfl) ?_ ?_
              rotate_left
              · intro w2 hSw
                clear hSw
                go_simp
                try with_reducible rfl
              try simp only [Act.put, List.setIfInBounds_toArray, List.set_cons_zero, List.set_cons_succ]
            refine tree_node ?_
            refine tree_move rfl (by rfl) (fun K hK => ?_) ?_
            · go_simp
              (with_reducible refine (MI.out _).mono ?_)
              rintro x5 w5 ⟨rfl, rfl⟩
              refine hK.out _ _ (hH.out) ?_
              clear hH hK K
              intro hH
              try simp only [Act.put, List.setIfInBounds_toArray, List.set_cons_zero, List.set_cons_succ]
              iterate 1
                refine tree_take (v := ?_) rfl (by rfl) ?_ ?_
                rotate_left
                · intro w2 hSw
                  clear hSw
                  go_simp
                  try with_reducible rfl
                try simp only [Act.put, List.setIfInBounds_toArray, List.set_cons_zero, List.set_cons_succ]
              refine tree_node ?_
              refine tree_move rfl (by rfl) (fun K hK => ?_) ?_
              · go_simp
                refine hK.out _ _ (hH.out.alloc hH.out.size _) ?_
                have FB := Lib.hid (row_at hH 62 zeroS)
                have HG := Lib.hid hH.out.size
                clear hH hK K
                intro hH
                try simp only [Act.put, List.setIfInBounds_toArray, List.set_cons_zero, List.set_cons_succ]
                refine tree_node ?_
                refine tree_move rfl (by rfl) (fun K hK => ?_) ?_
                · refine wp_store_row 62 _ _ rfl _ _ [.string ⟨#[]⟩, .string ⟨#[]⟩, .int .i64 nv, .string Q, .int .i64 mv] zeroS rfl rfl (row_size FB.out (by simp)) rfl HZi.out (by simp [Value.oneCell']) ?_
                  intro w7 hr7 ho7
                  refine hK.out _ _ (ho7.below hH.out (by have := HG.out; first | exact this | (simp at this; omega))) ?_
                  have FR7 := Lib.hid hr7
                  clear hK K hr7 ho7 FB HG
                  intro hH
                  try simp only [Act.put]
                  refine tree_done ?_
                  go_wp2_with fail
                  go_meet
                  exact ⟨_, rfl, FR7.out, hH.out⟩
                exact tree_stop
              exact tree_stop
            refine tree_move rfl (by rfl) (fun K hK => ?_) ?_
            · go_simp
              refine hK.out _ _ (hH.out.alloc hH.out.size _) ?_
              have FB := Lib.hid (row_at hH 62 zeroS)
              have HG := Lib.hid hH.out.size
              clear hH hK K
              intro hH
              try simp only [Act.put, List.setIfInBounds_toArray, List.set_cons_zero, List.set_cons_succ]
              refine tree_node ?_
              refine tree_move rfl (by rfl) (fun K hK => ?_) ?_
              · go_simp
                (with_reducible refine (MI.out _).mono ?_)
                rintro x5 w5 ⟨rfl, rfl⟩
                refine hK.out _ _ (hH.out) ?_
                clear hH hK K
                intro hH
                try simp only [Act.put, List.setIfInBounds_toArray, List.set_cons_zero, List.set_cons_succ]
                iterate 1
                  refine tree_take (v := ?_) rfl (by rfl) ?_ ?_
                  rotate_left
                  · intro w2 hSw
                    clear hSw
                    go_simp
                    try with_reducible rfl
                  try simp only [Act.put, List.setIfInBounds_toArray, List.set_cons_zero, List.set_cons_succ]
                refine tree_node ?_
                refine tree_move rfl (by rfl) (fun K hK => ?_) ?_
                · refine wp_store_row 62 _ _ rfl _ _ [.string ⟨#[]⟩, .string ⟨#[]⟩, .int .i64 nv, .string Q, .int .i64 mv] zeroS rfl rfl (row_size FB.out (by simp)) rfl HZi.out (by simp [Value.oneCell']) ?_
                  intro w7 hr7 ho7
                  refine hK.out _ _ (ho7.below hH.out (by have := HG.out; first | exact this | (simp at this; omega))) ?_
                  have FR7 := Lib.hid hr7
                  clear hK K hr7 ho7 FB HG
                  intro hH
                  try simp only [Act.put]
                  refine tree_done ?_
                  go_wp2_with fail
                  go_meet
                  exact ⟨_, rfl, FR7.out, hH.out⟩
                exact tree_stop
              exact tree_stop
            exact tree_stop
          case rest =>
            obtain ⟨w3, hw3⟩ : ∃ x : World, x = wc := ⟨_, rfl⟩
            subst hw3
            obtain ⟨g, rfl, hx, hbx⟩ := hcut
            have X3 := Lib.hid hx
            have B3 := Lib.hid (below_step B2.out hbx)
            have Z3 := Lib.hid (Z2.out.below hbx Z2.out.lt)
            have d4 := hx.cell (j := 4) rfl
            have d3 := hx.cell (j := 3) rfl
            clear hx hbx hN3 hV hQ
            by_cases hne : ne = 0
            · subst hne
              by_cases h100 : nv < 100
              · have _u := h100
                have HT : Hid (R = (Sta.zero, 0, 10)) := Lib.hid (by rw [HQ.out, HC.out]; cases minorP (X.take 8) <;> simp [h100])
                go_wp2_with (first
                  | (refine wpList_store_row rfl 62 _ _ rfl w.heap.size _ zeroS zeroS rfl rfl Z3.out rfl HZi.out (by simp [zeroS, Value.oneCell']) ?_; intro wz hrz hoz; have RZ := Lib.hid hrz; have OZ := Lib.hid hoz; clear hrz hoz))
                exact bodyPost_ret (v := .tuple #[.agg (zeroS : List Value).toArray, .int .i64 0, .int .i64 10]) (results_cell_tmps Tryz.results110 _ wz ⟨w.heap.size, 0, none⟩ rfl (.agg (zeroS : List Value).toArray) (.int .i64 0) (.int .i64 10) rfl rfl (run_loadVar_mid wz w.heap.size 0 62 zeroS _ (rangeOf RZ.out) Tryz.underlying62 rfl HZi.out)) rfl ⟨by rw [HT.out]; rfl, OZ.out.below B3.out (Nat.le_refl _)⟩
              · cases hm : minorP (X.take 8) with
                | none =>
                  have hneg : mv < 0 := by rw [← HMV.out, hm]; decide
                  have HT : Hid (R = (Sta.zero, 0, 10)) := Lib.hid (by rw [HQ.out, HC.out]; rw [hm]; simp)
                  go_wp2_with (first
                    | (refine wpList_store_row rfl 62 _ _ rfl w.heap.size _ zeroS zeroS rfl rfl Z3.out rfl HZi.out (by simp [zeroS, Value.oneCell']) ?_; intro wz hrz hoz; have RZ := Lib.hid hrz; have OZ := Lib.hid hoz; clear hrz hoz))
                  exact bodyPost_ret (v := .tuple #[.agg (zeroS : List Value).toArray, .int .i64 0, .int .i64 10]) (results_cell_tmps Tryz.results110 _ wz ⟨w.heap.size, 0, none⟩ rfl (.agg (zeroS : List Value).toArray) (.int .i64 0) (.int .i64 10) rfl rfl (run_loadVar_mid wz w.heap.size 0 62 zeroS _ (rangeOf RZ.out) Tryz.underlying62 rfl HZi.out)) rfl ⟨by rw [HT.out]; rfl, OZ.out.below B3.out (Nat.le_refl _)⟩
                | some mi =>
                  have hmi : mv = mi := by rw [← HMV.out, hm]; rfl
                  have hneg : ¬ mv < 0 := by rw [hmi]; rcases (minor_free hm).2.2 with h | h <;> omega
                  have HMI := Lib.hid hmi
                  clear hmi
                  cases hv : value D with
                  | false =>
                    have VF := VA.out
                    rw [hv] at VF
                    replace VA := Lib.hid VF
                    clear VF
                    have HT : Hid (R = (Sta.zero, 0, 10)) := Lib.hid (by rw [HQ.out, HC.out]; rw [hm, hv]; simp)
                    go_wp2_with (first
                      | (go_at_call 136; (with_reducible refine (VA.out _).mono ?_); rintro x6 w6 ⟨rfl, rfl⟩)
                      | (refine wpList_store_row rfl 62 _ _ rfl w.heap.size _ zeroS zeroS rfl rfl Z3.out rfl HZi.out (by simp [zeroS, Value.oneCell']) ?_; intro wz hrz hoz; have RZ := Lib.hid hrz; have OZ := Lib.hid hoz; clear hrz hoz))
                    exact bodyPost_ret (v := .tuple #[.agg (zeroS : List Value).toArray, .int .i64 0, .int .i64 10]) (results_cell_tmps Tryz.results110 _ wz ⟨w.heap.size, 0, none⟩ rfl (.agg (zeroS : List Value).toArray) (.int .i64 0) (.int .i64 10) rfl rfl (run_loadVar_mid wz w.heap.size 0 62 zeroS _ (rangeOf RZ.out) Tryz.underlying62 rfl HZi.out)) rfl ⟨by rw [HT.out]; rfl, OZ.out.below B3.out (Nat.le_refl _)⟩
                  | true =>
                    have VF := VA.out
                    rw [hv] at VF
                    replace VA := Lib.hid VF
                    clear VF
                    by_cases h200 : 200 < D.length
                    · have q1 : (200 : Int) < (Q.size : Int) := by omega
                      have HT : Hid (R = (Sta.zero, 0, 12)) := Lib.hid (by rw [HQ.out, HC.out]; rw [hm, hv]; simp [h100, h200])
                      go_wp2_with (first
                        | (go_at_call 136; (with_reducible refine (VA.out _).mono ?_); rintro x6 w6 ⟨rfl, rfl⟩)
                        | (refine wpList_store_row rfl 62 _ _ rfl w.heap.size _ zeroS zeroS rfl rfl Z3.out rfl HZi.out (by simp [zeroS, Value.oneCell']) ?_; intro wz hrz hoz; have RZ := Lib.hid hrz; have OZ := Lib.hid hoz; clear hrz hoz))
                      exact bodyPost_ret (v := .tuple #[.agg (zeroS : List Value).toArray, .int .i64 0, .int .i64 12]) (results_cell_tmps Tryz.results110 _ wz ⟨w.heap.size, 0, none⟩ rfl (.agg (zeroS : List Value).toArray) (.int .i64 0) (.int .i64 12) rfl rfl (run_loadVar_mid wz w.heap.size 0 62 zeroS _ (rangeOf RZ.out) Tryz.underlying62 rfl HZi.out)) rfl ⟨by rw [HT.out]; rfl, OZ.out.below B3.out (Nat.le_refl _)⟩
                    · have q1 : ¬ (200 : Int) < (Q.size : Int) := by omega
                      have HT : Hid (R = (⟨[], [], nv, D, mv⟩, (m : Int), 0)) := Lib.hid (by rw [HQ.out, HC.out]; rw [hm, hv, HMI.out]; simp [h100, h200])
                      go_wp2_with (first
                        | (go_at_call 136; (with_reducible refine (VA.out _).mono ?_); rintro x6 w6 ⟨rfl, rfl⟩)
                        | (refine wpList_load_g (wanted_un rfl) 62 _ rfl g 0 rfl [.string ⟨#[]⟩, .string ⟨#[]⟩, .int .i64 nv, .string Q, .int .i64 mv] _ (rangeOf X3.out) Tryz.underlying62 rfl HZi.out ?_)
                        | (refine wpList_store_row rfl 62 _ _ rfl w.heap.size _ [.string ⟨#[]⟩, .string ⟨#[]⟩, .int .i64 nv, .string Q, .int .i64 mv] zeroS rfl rfl Z3.out rfl HZi.out (by simp [Value.oneCell']) ?_; intro wz hrz hoz; have RZ := Lib.hid hrz; have OZ := Lib.hid hoz; clear hrz hoz))
                      exact bodyPost_ret (v := .tuple #[.agg ([.string ⟨#[]⟩, .string ⟨#[]⟩, .int .i64 nv, .string Q, .int .i64 mv] : List Value).toArray, .int .i64 m, .int .i64 0]) (results_cell_tmps Tryz.results110 _ wz ⟨w.heap.size, 0, none⟩ rfl (.agg ([.string ⟨#[]⟩, .string ⟨#[]⟩, .int .i64 nv, .string Q, .int .i64 mv] : List Value).toArray) (.int .i64 m) (.int .i64 0) rfl rfl (run_loadVar_mid wz w.heap.size 0 62 [.string ⟨#[]⟩, .string ⟨#[]⟩, .int .i64 nv, .string Q, .int .i64 mv] _ (rangeOf RZ.out) Tryz.underlying62 rfl HZi.out)) rfl ⟨by rw [HT.out]; unfold staC; simp only; rw [← HDQ.out], OZ.out.below B3.out (Nat.le_refl _)⟩
            · have nen : (ne != 0) = true := by rw [bne_iff_ne]; exact hne
              have HT : Hid (R = (Sta.zero, 0, 10)) := Lib.hid (by rw [HQ.out, HC.out]; cases minorP (X.take 8) <;> simp [hne])
              go_wp2_with (first
                | (refine wpList_store_row rfl 62 _ _ rfl w.heap.size _ zeroS zeroS rfl rfl Z3.out rfl HZi.out (by simp [zeroS, Value.oneCell']) ?_; intro wz hrz hoz; have RZ := Lib.hid hrz; have OZ := Lib.hid hoz; clear hrz hoz))
              exact bodyPost_ret (v := .tuple #[.agg (zeroS : List Value).toArray, .int .i64 0, .int .i64 10]) (results_cell_tmps Tryz.results110 _ wz ⟨w.heap.size, 0, none⟩ rfl (.agg (zeroS : List Value).toArray) (.int .i64 0) (.int .i64 10) rfl rfl (run_loadVar_mid wz w.heap.size 0 62 zeroS _ (rangeOf RZ.out) Tryz.underlying62 rfl HZi.out)) rfl ⟨by rw [HT.out]; rfl, OZ.out.below B3.out (Nat.le_refl _)⟩
        · have _u := h12
          have e1 : ((c12.toNat : Int) == 32) = false := by rw [beq_eq_false_iff_ne]; intro h; exact h12 (UInt8.toNat_inj.1 (by have : (32 : UInt8).toNat = 32 := rfl; omega))
          have e3 : ((c12.toNat : Int) != 32) = true := by rw [bne, e1]; rfl
          have HT : Hid (R = (Sta.zero, 0, 10)) := Lib.hid (by
            rw [HQ.out]
            have hC : respR X = (Sta.zero, 10) := by unfold respR; rw [if_pos (.inr (.inr (by rw [g12]; simpa using h12)))]
            rw [hC]; simp)
          go_enter Tryz.func110, Tryz.ntmps110
          go_wp2_with (first
            | (go_at_call 150; (with_reducible refine SL.out.mono ?_); rintro x2 w2 ⟨rfl, q2, hq2⟩; have hb2 : Below w1.heap.size w1 w2 := (by rw [hq2]; exact below_drewN (Below.refl _ _) _); clear hq2; have B2 := Lib.hid (below_step B1.out hb2); have Z2 := Lib.hid (Z1.out.below hb2 Z1.out.lt); clear hb2)
            | (refine wpList_store_row rfl 62 _ _ rfl w.heap.size _ zeroS zeroS rfl rfl Z2.out rfl HZi.out (by simp [zeroS, Value.oneCell']) ?_; intro wz hrz hoz; have RZ := Lib.hid hrz; have OZ := Lib.hid hoz; clear hrz hoz))
          exact bodyPost_ret (v := .tuple #[.agg (zeroS : List Value).toArray, .int .i64 0, .int .i64 10]) (results_cell_tmps Tryz.results110 _ wz ⟨w.heap.size, 0, none⟩ rfl (.agg (zeroS : List Value).toArray) (.int .i64 0) (.int .i64 10) rfl rfl (run_loadVar_mid wz w.heap.size 0 62 zeroS _ (rangeOf RZ.out) Tryz.underlying62 rfl HZi.out)) rfl ⟨by rw [HT.out]; rfl, OZ.out.below B2.out (Nat.le_refl _)⟩
      · have _u := h8
        have e1 : ((c8.toNat : Int) == 32) = false := by rw [beq_eq_false_iff_ne]; intro h; exact h8 (UInt8.toNat_inj.1 (by have : (32 : UInt8).toNat = 32 := rfl; omega))
        have e3 : ((c8.toNat : Int) != 32) = true := by rw [bne, e1]; rfl
        have HT : Hid (R = (Sta.zero, 0, 10)) := Lib.hid (by
          rw [HQ.out]
          have hC : respR X = (Sta.zero, 10) := by unfold respR; rw [if_pos (.inr (.inl (by rw [g8]; simpa using h8)))]
          rw [hC]; simp)
        go_enter Tryz.func110, Tryz.ntmps110
        go_wp2_with (first
          | (go_at_call 150; (with_reducible refine SL.out.mono ?_); rintro x2 w2 ⟨rfl, q2, hq2⟩; have hb2 : Below w1.heap.size w1 w2 := (by rw [hq2]; exact below_drewN (Below.refl _ _) _); clear hq2; have B2 := Lib.hid (below_step B1.out hb2); have Z2 := Lib.hid (Z1.out.below hb2 Z1.out.lt); clear hb2)
          | (refine wpList_store_row rfl 62 _ _ rfl w.heap.size _ zeroS zeroS rfl rfl Z2.out rfl HZi.out (by simp [zeroS, Value.oneCell']) ?_; intro wz hrz hoz; have RZ := Lib.hid hrz; have OZ := Lib.hid hoz; clear hrz hoz))
        exact bodyPost_ret (v := .tuple #[.agg (zeroS : List Value).toArray, .int .i64 0, .int .i64 10]) (results_cell_tmps Tryz.results110 _ wz ⟨w.heap.size, 0, none⟩ rfl (.agg (zeroS : List Value).toArray) (.int .i64 0) (.int .i64 10) rfl rfl (run_loadVar_mid wz w.heap.size 0 62 zeroS _ (rangeOf RZ.out) Tryz.underlying62 rfl HZi.out)) rfl ⟨by rw [HT.out]; rfl, OZ.out.below B2.out (Nat.le_refl _)⟩
end Go.Proofs.YtclgkkencpkjpaaGreatDoor
