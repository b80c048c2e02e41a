/- Walks of layer 19: which entries are right, by the document. Condition: the entry's own. Printed by mken6.py. -/
import Derived.Test.YtkodeeneljkgeaaDoorEa
import Derived.Test.YtkodeeneljkgeaaDoorCut19
import Derived.Test.YtkodeeneljkgeaaDoorEs
import Derived.Deep.DeepCutAuto
namespace Go.Proofs.YtkodeeneljkgeaaDoor
open Go.RowKit IH
set_option maxRecDepth 100000
set_option maxHeartbeats 64000000 in
theorem rright_raw (U V M T R H Z : ByteArray) (A1 : Option Addr) (n1 c1 : Nat) (A2 : Option Addr) (n2 c2 : Nat) (A3 : Option Addr) (n3 c3 : Nat) (st mi as_ go_ or_ sz su : Int) (r1 : Bool) (r2 : Int) (L : List (List UInt8)) (X : List (Int × Int)) (w : World)
    (hin1 : SliceIn w w.heap.size 1 A1 n1 c1 (strsV L)) (hin3 : SliceIn w w.heap.size 2 A3 n3 c3 (extsV X)) (hn1 : n1 ≤ 1000000) (hn3 : n3 ≤ 1000000) (hs : smallN 1000000 L) (hU : U.size ≤ 1000000) (hV : V.size ≤ 1000000)
    (CU : ∀ w, Calls Tryd.prog 27 #[.string U] w fun e w' => e = .returned (.tuple #[.string H, .string Z]) ∧ Below w.heap.size w w')
    (RS : ∀ w, Calls Tryd.prog 31 #[.agg #[.string M, .string T, .int .i64 st, .string R, .int .i64 mi]] w fun e w' => e = .returned (.bool r1) ∧ Below w.heap.size w w')
    (RF : ∀ W, Below w.heap.size w W → Calls Tryd.prog 32 #[.slice A2 n2 c2] W fun e w' => e = .returned (.int .i64 r2) ∧ Below W.heap.size W w')
    (y1 y3 y4 TT : Bool) (hy1 : y1 = (!(H.toList == []) && (H.toList == U.toList) && (Z.toList == []) && decide (¬ (100 : Int) < (U.size : Int) + 1 + (V.size : Int)) && decide (¬ (128 : Int) < (n1 : Int)))) (hy3 : y3 = (!(st == 0) && r1 && (r2 == 0))) (hy4 : y4 = (decide (¬ as_ < 0) && decide (¬ (1099511627776 : Int) < as_) && decide (¬ go_ < 0) && decide (¬ (1099511627776 : Int) < go_) && decide (¬ or_ < 0) && decide (¬ (1152921504606846976 : Int) ≤ or_) && decide (¬ sz < 0) && decide (¬ (1048576 : Int) < sz) && decide (¬ (8 : Int) < (n3 : Int))))
    (hT : TT = (y1 && named19 L && y3 && y4 && (X.all ext19 && decide (sumX X = need19 sz)))) :
    Calls Tryd.prog 12 #[.agg #[.string U, .slice A1 n1 c1, .string V, .string M, .string T, .int .i64 st, .string R, .int .i64 mi, .slice A2 n2 c2, .int .i64 as_, .int .i64 go_, .int .i64 or_, .int .i64 sz, .int .u32 su, .slice A3 n3 c3]] w
      fun e w' => e = .returned (.bool TT) ∧ Below w.heap.size w w' := by
  have Hin1 := Lib.hid hin1
  have Hin3 := Lib.hid hin3
  have HL1 : Hid (L.length = n1) := Lib.hid (by have := hin1.1; rw [strsV_length] at this; omega)
  have HL3 := Lib.hid (ext_count hin3)
  have HT := Lib.hid hT
  replace CU := Lib.hid CU
  replace RS := Lib.hid RS
  replace RF := Lib.hid RF
  obtain ⟨t1, e1⟩ : ∃ t, (H.toList == []) = t := ⟨_, rfl⟩
  obtain ⟨t2, e2⟩ : ∃ t, (H.toList == U.toList) = t := ⟨_, rfl⟩
  obtain ⟨t3, e3⟩ : ∃ t, (Z.toList == []) = t := ⟨_, rfl⟩
  obtain ⟨t4, e4⟩ : ∃ t, decide ((100 : Int) < (U.size : Int) + 1 + (V.size : Int)) = t := ⟨_, rfl⟩
  obtain ⟨t5, e5⟩ : ∃ t, decide ((128 : Int) < (n1 : Int)) = t := ⟨_, rfl⟩
  have HY1 : Hid ((!y1) = (t1 || (!t2 || (!t3 || (t4 || t5))))) := Lib.hid (by
    rw [hy1]
    rw [e1, e2, e3, decide_not, e4, decide_not, e5]
    cases t1 <;> cases t2 <;> cases t3 <;> cases t4 <;> cases t5 <;> rfl)
  obtain ⟨t0, e0⟩ : ∃ t, (st == 0) = t := ⟨_, rfl⟩
  obtain ⟨s2, e6⟩ : ∃ t, (r2 == 0) = t := ⟨_, rfl⟩
  have HY3 : Hid ((!y3) = (t0 || (!r1 || !s2))) := Lib.hid (by
    rw [hy3, e0, e6]
    cases t0 <;> cases r1 <;> cases s2 <;> rfl)
  obtain ⟨g1, eg1⟩ : ∃ t, decide (as_ < 0) = t := ⟨_, rfl⟩
  obtain ⟨g2, eg2⟩ : ∃ t, decide ((1099511627776 : Int) < as_) = t := ⟨_, rfl⟩
  obtain ⟨g3, eg3⟩ : ∃ t, decide (go_ < 0) = t := ⟨_, rfl⟩
  obtain ⟨g4, eg4⟩ : ∃ t, decide ((1099511627776 : Int) < go_) = t := ⟨_, rfl⟩
  obtain ⟨g5, eg5⟩ : ∃ t, decide (or_ < 0) = t := ⟨_, rfl⟩
  obtain ⟨g6, eg6⟩ : ∃ t, decide ((1152921504606846976 : Int) ≤ or_) = t := ⟨_, rfl⟩
  obtain ⟨g7, eg7⟩ : ∃ t, decide (sz < 0) = t := ⟨_, rfl⟩
  obtain ⟨g8, eg8⟩ : ∃ t, decide ((1048576 : Int) < sz) = t := ⟨_, rfl⟩
  obtain ⟨g9, eg9⟩ : ∃ t, decide ((8 : Int) < (n3 : Int)) = t := ⟨_, rfl⟩
  have HY4 : Hid ((!y4) = (g1 || (g2 || (g3 || (g4 || (g5 || (g6 || (g7 || (g8 || (g9)))))))))) := Lib.hid (by
    rw [hy4]
    simp only [decide_not, eg1, eg2, eg3, eg4, eg5, eg6, eg7, eg8, eg9]
    cases g1 <;> cases g2 <;> cases g3 <;> cases g4 <;> cases g5 <;> cases g6 <;> cases g7 <;> cases g8 <;> cases g9 <;> rfl)
  have E0 := Lib.hid e0
  have E1 := Lib.hid e1
  have E2 := Lib.hid e2
  have E3 := Lib.hid e3
  have E4 := Lib.hid e4
  have E5 := Lib.hid e5
  have E6 := Lib.hid e6
  have EG1 := Lib.hid eg1
  have EG2 := Lib.hid eg2
  have EG3 := Lib.hid eg3
  have EG4 := Lib.hid eg4
  have EG5 := Lib.hid eg5
  have EG6 := Lib.hid eg6
  have EG7 := Lib.hid eg7
  have EG8 := Lib.hid eg8
  have EG9 := Lib.hid eg9
  clear e0 e1 e2 e3 e4 e5 e6 eg1 eg2 eg3 eg4 eg5 eg6 eg7 eg8 eg9
  replace hy1 := Lib.hid hy1
  replace hy3 := Lib.hid hy3
  replace hy4 := Lib.hid hy4
  replace hs := Lib.hid hs
  clear hin1 hin3 hT
  have NW := Lib.hid (RowAt.new w 33 [.string U, .slice A1 n1 c1, .string V, .string M, .string T, .int .i64 st, .string R, .int .i64 mi, .slice A2 n2 c2, .int .i64 as_, .int .i64 go_, .int .i64 or_, .int .i64 sz, .int .u32 su, .slice A3 n3 c3])
  have NB := Lib.hid (below_al w (.cells #[.string U, .slice A1 n1 c1, .string V, .string M, .string T, .int .i64 st, .string R, .int .i64 mi, .slice A2 n2 c2, .int .i64 as_, .int .i64 go_, .int .i64 or_, .int .i64 sz, .int .u32 su, .slice A3 n3 c3] 33))
  go_enter Tryd.func12, Tryd.ntmps12
  go_upto_region 2 with (go_at_call 27; (with_reducible refine (CU.out _).mono ?_); rintro e w1 ⟨rfl, hb1⟩; have R1 := Lib.hid (NW.out.below hb1 NW.out.lt); have B1 := Lib.hid (below_step NB.out hb1); clear hb1; have d0 := R1.out.cell (j := 0) rfl; have d1 := R1.out.cell (j := 1) rfl; have d2 := R1.out.cell (j := 2) rfl)
  have e1 := E1.out
  have e2 := E2.out
  have e3 := E3.out
  have e4 := E4.out
  have e5 := E5.out
  have hwU : IntKind.i64.wrap ((U.size : Int) + 1) = (U.size : Int) + 1 := IntWalk.i64_in _ ⟨by omega, by omega⟩
  have hwV : IntKind.i64.wrap ((U.size : Int) + 1 + (V.size : Int)) = (U.size : Int) + 1 + (V.size : Int) := IntWalk.i64_in _ ⟨by omega, by omega⟩
  have e1' : H.toList.isEmpty = t1 := by rw [← e1]; cases H.toList <;> rfl
  have e2' : (H.toList != U.toList) = !t2 := by rw [bne, e2]
  have e3' : (Z.toList != []) = !t3 := by rw [bne, e3]
  have e3b : Z.toList.isEmpty = t3 := by rw [← e3]; cases Z.toList <;> rfl
  go_cut [43] (fun s wx => s = .bool (!y1) ∧ wx = w1)
  case first =>
    as_aux_lemma =>
      clear NW NB R1 B1 RS RF HT Hin1 Hin3 HL1 HL3 hs hy3 hy4 hn3
      refine wp_region_seq ?_
      iterate 3
        refine seq_take (v := ?_) (wanted_un rfl) ?_ ?_
        rotate_left
        · go_simp
          try with_reducible rfl
        try simp only [Act.put, List.setIfInBounds_toArray, List.set_cons_zero, List.set_cons_succ]
      cases t1
      rotate_left
      · iterate 4
          refine seq_skip (wanted_no rfl rfl rfl rfl) ?_
          try simp only [Act.put, List.setIfInBounds_toArray, List.set_cons_zero, List.set_cons_succ]
        iterate 2
          refine seq_take (v := ?_) (wanted_un rfl) ?_ ?_
          rotate_left
          · go_simp
            try with_reducible rfl
          try simp only [Act.put, List.setIfInBounds_toArray, List.set_cons_zero, List.set_cons_succ]
        iterate 2
          refine seq_skip (wanted_no rfl rfl rfl rfl) ?_
          try simp only [Act.put, List.setIfInBounds_toArray, List.set_cons_zero, List.set_cons_succ]
        iterate 2
          refine seq_take (v := ?_) (wanted_un rfl) ?_ ?_
          rotate_left
          · go_simp
            try with_reducible rfl
          try simp only [Act.put, List.setIfInBounds_toArray, List.set_cons_zero, List.set_cons_succ]
        iterate 9
          refine seq_skip (wanted_no rfl rfl rfl rfl) ?_
          try simp only [Act.put, List.setIfInBounds_toArray, List.set_cons_zero, List.set_cons_succ]
        iterate 2
          refine seq_take (v := ?_) (wanted_un rfl) ?_ ?_
          rotate_left
          · go_simp
            try with_reducible rfl
          try simp only [Act.put, List.setIfInBounds_toArray, List.set_cons_zero, List.set_cons_succ]
        iterate 4
          refine seq_skip (wanted_no rfl rfl rfl rfl) ?_
          try simp only [Act.put, List.setIfInBounds_toArray, List.set_cons_zero, List.set_cons_succ]
        iterate 1
          refine seq_take (v := ?_) (wanted_un rfl) ?_ ?_
          rotate_left
          · go_simp
            try with_reducible rfl
          try simp only [Act.put, List.setIfInBounds_toArray, List.set_cons_zero, List.set_cons_succ]
        refine seq_done ?_
        go_wp2_with fail
        go_meet
        exact ⟨congrArg Value.bool (by rw [HY1.out]; first | rfl | (simp; done)), rfl⟩
      iterate 4
        refine seq_take (v := ?_) (wanted_yes rfl rfl rfl rfl) ?_ ?_
        rotate_left
        · go_simp
          try with_reducible rfl
        try simp only [Act.put, List.setIfInBounds_toArray, List.set_cons_zero, List.set_cons_succ]
      iterate 2
        refine seq_take (v := ?_) (wanted_un rfl) ?_ ?_
        rotate_left
        · go_simp
          try with_reducible rfl
        try simp only [Act.put, List.setIfInBounds_toArray, List.set_cons_zero, List.set_cons_succ]
      cases t2
      rotate_left
      · iterate 2
          refine seq_take (v := ?_) (wanted_yes rfl rfl rfl rfl) ?_ ?_
          rotate_left
          · go_simp
            try with_reducible rfl
          try simp only [Act.put, List.setIfInBounds_toArray, List.set_cons_zero, List.set_cons_succ]
        iterate 2
          refine seq_take (v := ?_) (wanted_un rfl) ?_ ?_
          rotate_left
          · go_simp
            try with_reducible rfl
          try simp only [Act.put, List.setIfInBounds_toArray, List.set_cons_zero, List.set_cons_succ]
        cases t3
        rotate_left
        · iterate 9
            refine seq_take (v := ?_) (wanted_yes rfl rfl rfl rfl) ?_ ?_
            rotate_left
            · go_simp
              try with_reducible rfl
            try simp only [Act.put, List.setIfInBounds_toArray, List.set_cons_zero, List.set_cons_succ]
          iterate 2
            refine seq_take (v := ?_) (wanted_un rfl) ?_ ?_
            rotate_left
            · go_simp
              try with_reducible rfl
            try simp only [Act.put, List.setIfInBounds_toArray, List.set_cons_zero, List.set_cons_succ]
          cases t4
          rotate_left
          · iterate 4
              refine seq_skip (wanted_no rfl rfl rfl rfl) ?_
              try simp only [Act.put, List.setIfInBounds_toArray, List.set_cons_zero, List.set_cons_succ]
            iterate 1
              refine seq_take (v := ?_) (wanted_un rfl) ?_ ?_
              rotate_left
              · go_simp
                try with_reducible rfl
              try simp only [Act.put, List.setIfInBounds_toArray, List.set_cons_zero, List.set_cons_succ]
            refine seq_done ?_
            go_wp2_with fail
            go_meet
            exact ⟨congrArg Value.bool (by rw [HY1.out]; first | rfl | (simp; done)), rfl⟩
          iterate 4
            refine seq_take (v := ?_) (wanted_yes rfl rfl rfl rfl) ?_ ?_
            rotate_left
            · go_simp
              try with_reducible rfl
            try simp only [Act.put, List.setIfInBounds_toArray, List.set_cons_zero, List.set_cons_succ]
          iterate 1
            refine seq_take (v := ?_) (wanted_un rfl) ?_ ?_
            rotate_left
            · go_simp
              try with_reducible rfl
            try simp only [Act.put, List.setIfInBounds_toArray, List.set_cons_zero, List.set_cons_succ]
          refine seq_done ?_
          go_wp2_with fail
          go_meet
          exact ⟨congrArg Value.bool (by rw [HY1.out]; first | rfl | (simp; done)), rfl⟩
        iterate 9
          refine seq_skip (wanted_no rfl rfl rfl rfl) ?_
          try simp only [Act.put, List.setIfInBounds_toArray, List.set_cons_zero, List.set_cons_succ]
        iterate 2
          refine seq_take (v := ?_) (wanted_un rfl) ?_ ?_
          rotate_left
          · go_simp
            try with_reducible rfl
          try simp only [Act.put, List.setIfInBounds_toArray, List.set_cons_zero, List.set_cons_succ]
        iterate 4
          refine seq_skip (wanted_no rfl rfl rfl rfl) ?_
          try simp only [Act.put, List.setIfInBounds_toArray, List.set_cons_zero, List.set_cons_succ]
        iterate 1
          refine seq_take (v := ?_) (wanted_un rfl) ?_ ?_
          rotate_left
          · go_simp
            try with_reducible rfl
          try simp only [Act.put, List.setIfInBounds_toArray, List.set_cons_zero, List.set_cons_succ]
        refine seq_done ?_
        go_wp2_with fail
        go_meet
        exact ⟨congrArg Value.bool (by rw [HY1.out]; first | rfl | (simp; done)), rfl⟩
      iterate 2
        refine seq_skip (wanted_no rfl rfl rfl rfl) ?_
        try simp only [Act.put, List.setIfInBounds_toArray, List.set_cons_zero, List.set_cons_succ]
      iterate 2
        refine seq_take (v := ?_) (wanted_un rfl) ?_ ?_
        rotate_left
        · go_simp
          try with_reducible rfl
        try simp only [Act.put, List.setIfInBounds_toArray, List.set_cons_zero, List.set_cons_succ]
      iterate 9
        refine seq_skip (wanted_no rfl rfl rfl rfl) ?_
        try simp only [Act.put, List.setIfInBounds_toArray, List.set_cons_zero, List.set_cons_succ]
      iterate 2
        refine seq_take (v := ?_) (wanted_un rfl) ?_ ?_
        rotate_left
        · go_simp
          try with_reducible rfl
        try simp only [Act.put, List.setIfInBounds_toArray, List.set_cons_zero, List.set_cons_succ]
      iterate 4
        refine seq_skip (wanted_no rfl rfl rfl rfl) ?_
        try simp only [Act.put, List.setIfInBounds_toArray, List.set_cons_zero, List.set_cons_succ]
      iterate 1
        refine seq_take (v := ?_) (wanted_un rfl) ?_ ?_
        rotate_left
        · go_simp
          try with_reducible rfl
        try simp only [Act.put, List.setIfInBounds_toArray, List.set_cons_zero, List.set_cons_succ]
      refine seq_done ?_
      go_wp2_with fail
      go_meet
      exact ⟨congrArg Value.bool (by rw [HY1.out]; first | rfl | (simp; done)), rfl⟩
  case rest =>
    obtain ⟨rfl, hwc⟩ := hcut
    subst hwc
    clear NW NB d0 d1 d2 hwU hwV e1 e2 e3 e4 e5 e1' e2' e3' e3b HY1
    cases y1
    · have HN : Hid (TT = false) := Lib.hid (by rw [HT.out]; rfl)
      go_wp2
      go_ret
      exact ⟨ret_bool HN.out.symm, B1.out⟩
    · have HT2 : Hid (TT = (named19 L && y3 && y4 && (X.all ext19 && decide (sumX X = need19 sz)))) := Lib.hid (by rw [HT.out, Bool.true_and])
      clear HT hy1 CU
      rw [show (!true) = false from rfl]
      go_wp2
      go_loopw [5] (fun i wr => ∃ k : Nat, i = .int .i64 k ∧ k ≤ n1 ∧ (∀ j, j < k → goodN L j = true) ∧ RowAt wr w.heap.size 33 [.string U, .slice A1 n1 c1, .string V, .string M, .string T, .int .i64 st, .string R, .int .i64 mi, .slice A2 n2 c2, .int .i64 as_, .int .i64 go_, .int .i64 or_, .int .i64 sz, .int .u32 su, .slice A3 n3 c3] ∧ Below w.heap.size w wr) (fun i _ => n1 - (intOf i).toNat)
      case atStart => exact ⟨0, rfl, by omega, fun j hj => absurd hj (by omega), R1.out, B1.out⟩
      case round =>
        obtain ⟨k, rfl, hk, hgood, hr, hbel⟩ := hrel
        clear R1 B1
        have HR := Lib.hid hr
        have Hbel := Lib.hid hbel
        replace hgood := Lib.hid hgood
        clear hbel
        by_cases hlt : k < n1
        · as_aux_lemma =>
            obtain ⟨s, hsk⟩ : ∃ s, L[k]? = some s := ⟨_, List.getElem?_eq_getElem (by rw [HL1.out]; exact hlt)⟩
            obtain ⟨b, off, rfl, hb, hcells⟩ := str_in (Hin1.out.below Hbel.out) hsk
            have f1 := hr.cell (j := 1) rfl
            clear hr RS RF
            have hcW : ∀ W, Below w.heap.size w W → ∀ j x, L[j]? = some x → W.cell? ⟨b, off + j, none⟩ = some (.string ⟨x.toArray⟩) := fun W h4 j x hx => (h4.cell (p := ⟨b, off + j, none⟩) hb).trans ((Hbel.out.cell (p := ⟨b, off + j, none⟩) hb).symm.trans (hcells j x hx))
            have c0 := hcells k s hsk
            have hsb := hs.out s (List.mem_of_getElem? hsk)
            have TK : ∀ w, Calls Tryd.prog 28 #[.string ⟨s.toArray⟩] w fun e w' => e = .returned (.bool (token s)) ∧ Below w.heap.size w w' := fun w => refToken_any ⟨s.toArray⟩ (by rw [size_mk]; omega) w
            have LO : ∀ w, Calls Tryd.prog 29 #[.string ⟨s.toArray⟩] w fun e w' => e = .returned (.string ⟨(lower s).toArray⟩) ∧ Below w.heap.size w w' := fun w => refLower_any ⟨s.toArray⟩ (by rw [size_mk]; omega) w
            have hlo : ((⟨(lower s).toArray⟩ : ByteArray).toList == (⟨s.toArray⟩ : ByteArray).toList) = (lower s == s) := by rw [ByteArray.toList_eq, ByteArray.toList_eq]
            have LSs : ∀ p : List UInt8, p.length ≤ 1000000 → ∀ w, Calls Tryd.prog 30 #[.string ⟨p.toArray⟩, .string ⟨s.toArray⟩] w fun e w' => e = .returned (.bool (lessB p s)) ∧ ∃ q, w' = w.drewN q := fun p hp w => rless_any ⟨p.toArray⟩ ⟨s.toArray⟩ (by rw [size_mk]; omega) (by rw [size_mk]; omega) w
            obtain ⟨S, hS⟩ : ∃ S : ByteArray, (⟨s.toArray⟩ : ByteArray) = S := ⟨_, rfl⟩
            obtain ⟨S2, hS2⟩ : ∃ S : ByteArray, (⟨(lower s).toArray⟩ : ByteArray) = S := ⟨_, rfl⟩
            rw [hS] at TK LO c0 hlo LSs
            rw [hS2] at LO hlo
            obtain ⟨b1, hb1⟩ : ∃ b, token s = b := ⟨_, rfl⟩
            obtain ⟨b2, hb2⟩ : ∃ b, (lower s == s) = b := ⟨_, rfl⟩
            rw [hb1] at TK
            rw [hb2] at hlo
            replace TK := Lib.hid TK
            replace LO := Lib.hid LO
            have lon : (S2.toList != S.toList) = !b2 := by rw [bne, hlo]
            clear hcells
            by_cases hk0 : k = 0
            · subst hk0
              have hg := goodN_0 hsk
              rw [hb1, hb2] at hg
              replace hg := Lib.hid hg
              rw [Nat.add_zero] at c0
              have k0 : ¬ ((0 : Int) < ((0 : Nat) : Int)) := by omega
              clear hsk hS hS2 hb1 hb2 hcW LSs
              rcases (show b1 = false ∨ (b1 = true ∧ b2 = false) ∨ (b1 = true ∧ b2 = true) by cases b1 <;> cases b2 <;> simp) with rfl | ⟨rfl, rfl⟩ | ⟨rfl, rfl⟩
              all_goals go_wp2_with (first
                  | (go_at_call 28; (with_reducible refine (TK.out _).mono ?_); rintro e w2 ⟨rfl, hb2⟩; have R2 := Lib.hid (HR.out.below hb2 HR.out.lt); have B2 := Lib.hid (below_step Hbel.out hb2); clear hb2)
                  | (go_at_call 29; (with_reducible refine (LO.out _).mono ?_); rintro e w3 ⟨rfl, hb3⟩; have R3 := Lib.hid (R2.out.below hb3 R2.out.lt); have B3 := Lib.hid (below_step B2.out hb3); clear hb3))
              all_goals first
                | (go_ret; exact ⟨ret_bool (by rw [HT2.out, named_no (i := 0) (by rw [hg.out]; simp), Bool.false_and, Bool.false_and, Bool.false_and]), by first | exact B3.out | exact B2.out⟩)
                | (go_roundw
                   case rel => exact ⟨1, by go_num, by omega, fun j hj => by (obtain rfl : j = 0 := by omega); rw [hg.out]; rfl, R3.out, B3.out⟩
                   case measure => simp [intOf]; omega)
            · obtain ⟨j, rfl⟩ : ∃ j, k = j + 1 := ⟨k - 1, by omega⟩
              obtain ⟨p, hp⟩ : ∃ p, L[j]? = some p := ⟨_, List.getElem?_eq_getElem (by rw [HL1.out]; omega)⟩
              have hg := goodN_s hp hsk
              rw [hb1, hb2] at hg
              have LS := LSs p (hs.out p (List.mem_of_getElem? hp))
              obtain ⟨b3, hb3⟩ : ∃ b, lessB p s = b := ⟨_, rfl⟩
              rw [hb3] at hg LS
              have c1 : ∀ W, Below w.heap.size w W → W.cell? ⟨b, off + j, none⟩ = some (.string ⟨p.toArray⟩) := fun W h4 => hcW W h4 j p hp
              obtain ⟨Pp, hPp⟩ : ∃ S : ByteArray, (⟨p.toArray⟩ : ByteArray) = S := ⟨_, rfl⟩
              rw [hPp] at c1 LS
              have j1 : ((j + 1 : Nat) : Int) - 1 = (j : Int) := by omega
              have j0 : (0 : Int) < ((j + 1 : Nat) : Int) := by omega
              have jn : (j : Int) < (n1 : Int) := by omega
              have jl : j < n1 := by omega
              replace hg := Lib.hid hg
              replace c1 := Lib.hid c1
              replace LS := Lib.hid LS
              clear hsk hp hS hS2 hb1 hb2 hb3 hPp hcW LSs
              rcases (show b1 = false ∨ (b1 = true ∧ b2 = false) ∨ (b1 = true ∧ b2 = true ∧ b3 = false) ∨ (b1 = true ∧ b2 = true ∧ b3 = true) by cases b1 <;> cases b2 <;> cases b3 <;> simp) with rfl | ⟨rfl, rfl⟩ | ⟨rfl, rfl, rfl⟩ | ⟨rfl, rfl, rfl⟩
              all_goals go_wp2_with (first
                  | (go_at_call 28; (with_reducible refine (TK.out _).mono ?_); rintro e w2 ⟨rfl, hb2⟩; have R2 := Lib.hid (HR.out.below hb2 HR.out.lt); have B2 := Lib.hid (below_step Hbel.out hb2); clear hb2)
                  | (go_at_call 29; (with_reducible refine (LO.out _).mono ?_); rintro e w3 ⟨rfl, hb3⟩; have R3 := Lib.hid (R2.out.below hb3 R2.out.lt); have B3 := Lib.hid (below_step B2.out hb3); have d1 := c1.out w3 B3.out; have e1 := R3.out.cell (j := 1) rfl; clear hb3)
                  | (go_at_call 30; (with_reducible refine (LS.out _).mono ?_); rintro e w4 ⟨rfl, q, rfl⟩))
              all_goals first
                | (go_ret; exact ⟨ret_bool (by rw [HT2.out, named_no (i := j + 1) (by rw [hg.out]; simp), Bool.false_and, Bool.false_and, Bool.false_and]), by first | exact below_drewN B3.out _ | exact B3.out | exact B2.out⟩)
                | (go_roundw
                   case rel => exact ⟨j + 2, by go_num, by omega, fun i hi => by (rcases (show i = j + 1 ∨ i < j + 1 by omega) with rfl | hi); (rw [hg.out]; rfl); exact hgood.out i hi, R3.out.drewN _, below_drewN B3.out _⟩
                   case measure => simp [intOf]; omega)
        · have HT3 : Hid (TT = (y3 && y4 && (X.all ext19 && decide (sumX X = need19 sz)))) := Lib.hid (by rw [HT2.out, named_yes (fun i hi => hgood.out i (by rw [HL1.out] at hi; omega)), Bool.true_and])
          clear HT2 hgood hs Hin1
          have f1 := hr.cell (j := 1) rfl
          obtain ⟨st', hst⟩ : ∃ s, s = st := ⟨_, rfl⟩
          have f3 := hr.cell (j := 3) rfl
          have f4 := hr.cell (j := 4) rfl
          have f5 := hr.cell (j := 5) rfl
          have f6 := hr.cell (j := 6) rfl
          have f7 := hr.cell (j := 7) rfl
          clear hr
          rw [← hst] at RS f5 hy3
          have hst' := hst
          replace hst := Lib.hid hst
          go_upto_region 10 with fail
          have e0 := E0.out
          rw [← hst'] at e0
          have e2 := E6.out
          have e2' : (r2 != 0) = !s2 := by rw [bne, e2]
          clear hst'
          go_cut [95] (fun s wx => s = .bool (!y3) ∧ RowAt wx w.heap.size 33 [.string U, .slice A1 n1 c1, .string V, .string M, .string T, .int .i64 st, .string R, .int .i64 mi, .slice A2 n2 c2, .int .i64 as_, .int .i64 go_, .int .i64 or_, .int .i64 sz, .int .u32 su, .slice A3 n3 c3] ∧ Below w.heap.size w wx)
          case first =>
            as_aux_lemma =>
              clear HT3 hy4 hn1 hn3 Hin3 HL1 HL3 hU hV
              refine wp_region_seq ?_
              iterate 5
                refine seq_take (v := ?_) (wanted_un rfl) ?_ ?_
                rotate_left
                · go_simp
                  try with_reducible rfl
                try simp only [Act.put, List.setIfInBounds_toArray, List.set_cons_zero, List.set_cons_succ]
              cases t0
              rotate_left
              · iterate 4
                  refine seq_skip (wanted_no rfl rfl rfl rfl) ?_
                  try simp only [Act.put, List.setIfInBounds_toArray, List.set_cons_zero, List.set_cons_succ]
                iterate 2
                  refine seq_take (v := ?_) (wanted_un rfl) ?_ ?_
                  rotate_left
                  · go_simp
                    try with_reducible rfl
                  try simp only [Act.put, List.setIfInBounds_toArray, List.set_cons_zero, List.set_cons_succ]
                iterate 4
                  refine seq_skip (wanted_no rfl rfl rfl rfl) ?_
                  try simp only [Act.put, List.setIfInBounds_toArray, List.set_cons_zero, List.set_cons_succ]
                iterate 1
                  refine seq_take (v := ?_) (wanted_un rfl) ?_ ?_
                  rotate_left
                  · go_simp
                    try with_reducible rfl
                  try simp only [Act.put, List.setIfInBounds_toArray, List.set_cons_zero, List.set_cons_succ]
                refine seq_done ?_
                go_wp2_with fail
                go_meet
                exact ⟨congrArg Value.bool (by rw [HY3.out]; first | rfl | (simp; done)), by first | exact R3.out | exact R2.out | exact HR.out, by first | exact B3.out | exact B2.out | exact Hbel.out⟩
              iterate 2
                refine seq_take (v := ?_) (wanted_yes rfl rfl rfl rfl) ?_ ?_
                rotate_left
                · go_simp
                  try with_reducible rfl
                try simp only [Act.put, List.setIfInBounds_toArray, List.set_cons_zero, List.set_cons_succ]
              refine seq_move (wanted_yes rfl rfl rfl rfl) (fun K hK => ?_)
              go_simp
              (with_reducible refine (RS.out _).mono ?_)
              rintro e w2 ⟨rfl, hb2⟩
              have R2 := Lib.hid (HR.out.below hb2 HR.out.lt)
              have B2 := Lib.hid (below_step Hbel.out hb2)
              have e8 := R2.out.cell (j := 8) rfl
              clear hb2
              refine hK.out _ _ ?_
              clear hK K
              try simp only [Act.put, List.setIfInBounds_toArray, List.set_cons_zero, List.set_cons_succ]
              iterate 1
                refine seq_take (v := ?_) (wanted_yes rfl rfl rfl rfl) ?_ ?_
                rotate_left
                · go_simp
                  try with_reducible rfl
                try simp only [Act.put, List.setIfInBounds_toArray, List.set_cons_zero, List.set_cons_succ]
              iterate 2
                refine seq_take (v := ?_) (wanted_un rfl) ?_ ?_
                rotate_left
                · go_simp
                  try with_reducible rfl
                try simp only [Act.put, List.setIfInBounds_toArray, List.set_cons_zero, List.set_cons_succ]
              cases r1
              rotate_left
              · iterate 2
                  refine seq_take (v := ?_) (wanted_yes rfl rfl rfl rfl) ?_ ?_
                  rotate_left
                  · go_simp
                    try with_reducible rfl
                  try simp only [Act.put, List.setIfInBounds_toArray, List.set_cons_zero, List.set_cons_succ]
                refine seq_move (wanted_yes rfl rfl rfl rfl) (fun K hK => ?_)
                go_simp
                (with_reducible refine (RF.out _ B2.out).mono ?_)
                rintro e w3 ⟨rfl, hb3⟩
                have R3 := Lib.hid (R2.out.below hb3 R2.out.lt)
                have B3 := Lib.hid (below_step B2.out hb3)
                clear hb3
                refine hK.out _ _ ?_
                clear hK K
                try simp only [Act.put, List.setIfInBounds_toArray, List.set_cons_zero, List.set_cons_succ]
                iterate 1
                  refine seq_take (v := ?_) (wanted_yes rfl rfl rfl rfl) ?_ ?_
                  rotate_left
                  · go_simp
                    try with_reducible rfl
                  try simp only [Act.put, List.setIfInBounds_toArray, List.set_cons_zero, List.set_cons_succ]
                iterate 1
                  refine seq_take (v := ?_) (wanted_un rfl) ?_ ?_
                  rotate_left
                  · go_simp
                    try with_reducible rfl
                  try simp only [Act.put, List.setIfInBounds_toArray, List.set_cons_zero, List.set_cons_succ]
                refine seq_done ?_
                go_wp2_with fail
                go_meet
                exact ⟨congrArg Value.bool (by rw [HY3.out]; first | rfl | (simp; done)), by first | exact R3.out | exact R2.out | exact HR.out, by first | exact B3.out | exact B2.out | exact Hbel.out⟩
              iterate 4
                refine seq_skip (wanted_no rfl rfl rfl rfl) ?_
                try simp only [Act.put, List.setIfInBounds_toArray, List.set_cons_zero, List.set_cons_succ]
              iterate 1
                refine seq_take (v := ?_) (wanted_un rfl) ?_ ?_
                rotate_left
                · go_simp
                  try with_reducible rfl
                try simp only [Act.put, List.setIfInBounds_toArray, List.set_cons_zero, List.set_cons_succ]
              refine seq_done ?_
              go_wp2_with fail
              go_meet
              exact ⟨congrArg Value.bool (by rw [HY3.out]; first | rfl | (simp; done)), by first | exact R3.out | exact R2.out | exact HR.out, by first | exact B3.out | exact B2.out | exact Hbel.out⟩
          case rest =>
            clear f1 f3 f4 f5 f6 f7 HR Hbel RS RF e0 e2 e2' HY3
            obtain ⟨rfl, hr, hbel⟩ := hcut
            obtain ⟨w5, hw5⟩ : ∃ w5 : World, w5 = wc := ⟨_, rfl⟩
            subst hw5
            have HR := Lib.hid hr
            have Hbel := Lib.hid hbel
            clear hbel
            cases y3
            · have HN : Hid (TT = false) := Lib.hid (by rw [HT3.out]; rfl)
              clear hr
              go_wp2
              go_ret
              exact ⟨ret_bool HN.out.symm, Hbel.out⟩
            · have HT4 : Hid (TT = (y4 && (X.all ext19 && decide (sumX X = need19 sz)))) := Lib.hid (by rw [HT3.out, Bool.true_and])
              clear HT3 hy3
              have f9 := hr.cell (j := 9) rfl
              have f10 := hr.cell (j := 10) rfl
              have f11 := hr.cell (j := 11) rfl
              have f12 := hr.cell (j := 12) rfl
              have f14 := hr.cell (j := 14) rfl
              clear hr
              rw [show (!true) = false from rfl]
              go_upto_region 12 with fail
              have eg1 := EG1.out
              have eg2 := EG2.out
              have eg3 := EG3.out
              have eg4 := EG4.out
              have eg5 := EG5.out
              have eg6 := EG6.out
              have eg7 := EG7.out
              have eg8 := EG8.out
              have eg9 := EG9.out
              go_cut [143] (fun s wx => s = .bool (!y4) ∧ wx = w5)
              case first =>
                as_aux_lemma =>
                  clear HT4 HR Hbel Hin3 HL1 HL3 hn1 hn3 hU hV
                  refine wp_region_seq ?_
                  iterate 5
                    refine seq_take (v := ?_) (wanted_un rfl) ?_ ?_
                    rotate_left
                    · go_simp
                      try with_reducible rfl
                    try simp only [Act.put, List.setIfInBounds_toArray, List.set_cons_zero, List.set_cons_succ]
                  cases g1
                  rotate_left
                  · iterate 4
                      refine seq_skip (wanted_no rfl rfl rfl rfl) ?_
                      try simp only [Act.put, List.setIfInBounds_toArray, List.set_cons_zero, List.set_cons_succ]
                    iterate 2
                      refine seq_take (v := ?_) (wanted_un rfl) ?_ ?_
                      rotate_left
                      · go_simp
                        try with_reducible rfl
                      try simp only [Act.put, List.setIfInBounds_toArray, List.set_cons_zero, List.set_cons_succ]
                    iterate 4
                      refine seq_skip (wanted_no rfl rfl rfl rfl) ?_
                      try simp only [Act.put, List.setIfInBounds_toArray, List.set_cons_zero, List.set_cons_succ]
                    iterate 2
                      refine seq_take (v := ?_) (wanted_un rfl) ?_ ?_
                      rotate_left
                      · go_simp
                        try with_reducible rfl
                      try simp only [Act.put, List.setIfInBounds_toArray, List.set_cons_zero, List.set_cons_succ]
                    iterate 4
                      refine seq_skip (wanted_no rfl rfl rfl rfl) ?_
                      try simp only [Act.put, List.setIfInBounds_toArray, List.set_cons_zero, List.set_cons_succ]
                    iterate 2
                      refine seq_take (v := ?_) (wanted_un rfl) ?_ ?_
                      rotate_left
                      · go_simp
                        try with_reducible rfl
                      try simp only [Act.put, List.setIfInBounds_toArray, List.set_cons_zero, List.set_cons_succ]
                    iterate 3
                      refine seq_skip (wanted_no rfl rfl rfl rfl) ?_
                      try simp only [Act.put, List.setIfInBounds_toArray, List.set_cons_zero, List.set_cons_succ]
                    iterate 2
                      refine seq_take (v := ?_) (wanted_un rfl) ?_ ?_
                      rotate_left
                      · go_simp
                        try with_reducible rfl
                      try simp only [Act.put, List.setIfInBounds_toArray, List.set_cons_zero, List.set_cons_succ]
                    iterate 3
                      refine seq_skip (wanted_no rfl rfl rfl rfl) ?_
                      try simp only [Act.put, List.setIfInBounds_toArray, List.set_cons_zero, List.set_cons_succ]
                    iterate 2
                      refine seq_take (v := ?_) (wanted_un rfl) ?_ ?_
                      rotate_left
                      · go_simp
                        try with_reducible rfl
                      try simp only [Act.put, List.setIfInBounds_toArray, List.set_cons_zero, List.set_cons_succ]
                    iterate 3
                      refine seq_skip (wanted_no rfl rfl rfl rfl) ?_
                      try simp only [Act.put, List.setIfInBounds_toArray, List.set_cons_zero, List.set_cons_succ]
                    iterate 2
                      refine seq_take (v := ?_) (wanted_un rfl) ?_ ?_
                      rotate_left
                      · go_simp
                        try with_reducible rfl
                      try simp only [Act.put, List.setIfInBounds_toArray, List.set_cons_zero, List.set_cons_succ]
                    iterate 3
                      refine seq_skip (wanted_no rfl rfl rfl rfl) ?_
                      try simp only [Act.put, List.setIfInBounds_toArray, List.set_cons_zero, List.set_cons_succ]
                    iterate 2
                      refine seq_take (v := ?_) (wanted_un rfl) ?_ ?_
                      rotate_left
                      · go_simp
                        try with_reducible rfl
                      try simp only [Act.put, List.setIfInBounds_toArray, List.set_cons_zero, List.set_cons_succ]
                    iterate 4
                      refine seq_skip (wanted_no rfl rfl rfl rfl) ?_
                      try simp only [Act.put, List.setIfInBounds_toArray, List.set_cons_zero, List.set_cons_succ]
                    iterate 1
                      refine seq_take (v := ?_) (wanted_un rfl) ?_ ?_
                      rotate_left
                      · go_simp
                        try with_reducible rfl
                      try simp only [Act.put, List.setIfInBounds_toArray, List.set_cons_zero, List.set_cons_succ]
                    refine seq_done ?_
                    go_wp2_with fail
                    go_meet
                    exact ⟨congrArg Value.bool (by rw [HY4.out]; first | rfl | (simp; done)), rfl⟩
                  iterate 4
                    refine seq_take (v := ?_) (wanted_yes rfl rfl rfl rfl) ?_ ?_
                    rotate_left
                    · go_simp
                      try with_reducible rfl
                    try simp only [Act.put, List.setIfInBounds_toArray, List.set_cons_zero, List.set_cons_succ]
                  iterate 2
                    refine seq_take (v := ?_) (wanted_un rfl) ?_ ?_
                    rotate_left
                    · go_simp
                      try with_reducible rfl
                    try simp only [Act.put, List.setIfInBounds_toArray, List.set_cons_zero, List.set_cons_succ]
                  cases g2
                  rotate_left
                  · iterate 4
                      refine seq_skip (wanted_no rfl rfl rfl rfl) ?_
                      try simp only [Act.put, List.setIfInBounds_toArray, List.set_cons_zero, List.set_cons_succ]
                    iterate 2
                      refine seq_take (v := ?_) (wanted_un rfl) ?_ ?_
                      rotate_left
                      · go_simp
                        try with_reducible rfl
                      try simp only [Act.put, List.setIfInBounds_toArray, List.set_cons_zero, List.set_cons_succ]
                    iterate 4
                      refine seq_skip (wanted_no rfl rfl rfl rfl) ?_
                      try simp only [Act.put, List.setIfInBounds_toArray, List.set_cons_zero, List.set_cons_succ]
                    iterate 2
                      refine seq_take (v := ?_) (wanted_un rfl) ?_ ?_
                      rotate_left
                      · go_simp
                        try with_reducible rfl
                      try simp only [Act.put, List.setIfInBounds_toArray, List.set_cons_zero, List.set_cons_succ]
                    iterate 3
                      refine seq_skip (wanted_no rfl rfl rfl rfl) ?_
                      try simp only [Act.put, List.setIfInBounds_toArray, List.set_cons_zero, List.set_cons_succ]
                    iterate 2
                      refine seq_take (v := ?_) (wanted_un rfl) ?_ ?_
                      rotate_left
                      · go_simp
                        try with_reducible rfl
                      try simp only [Act.put, List.setIfInBounds_toArray, List.set_cons_zero, List.set_cons_succ]
                    iterate 3
                      refine seq_skip (wanted_no rfl rfl rfl rfl) ?_
                      try simp only [Act.put, List.setIfInBounds_toArray, List.set_cons_zero, List.set_cons_succ]
                    iterate 2
                      refine seq_take (v := ?_) (wanted_un rfl) ?_ ?_
                      rotate_left
                      · go_simp
                        try with_reducible rfl
                      try simp only [Act.put, List.setIfInBounds_toArray, List.set_cons_zero, List.set_cons_succ]
                    iterate 3
                      refine seq_skip (wanted_no rfl rfl rfl rfl) ?_
                      try simp only [Act.put, List.setIfInBounds_toArray, List.set_cons_zero, List.set_cons_succ]
                    iterate 2
                      refine seq_take (v := ?_) (wanted_un rfl) ?_ ?_
                      rotate_left
                      · go_simp
                        try with_reducible rfl
                      try simp only [Act.put, List.setIfInBounds_toArray, List.set_cons_zero, List.set_cons_succ]
                    iterate 3
                      refine seq_skip (wanted_no rfl rfl rfl rfl) ?_
                      try simp only [Act.put, List.setIfInBounds_toArray, List.set_cons_zero, List.set_cons_succ]
                    iterate 2
                      refine seq_take (v := ?_) (wanted_un rfl) ?_ ?_
                      rotate_left
                      · go_simp
                        try with_reducible rfl
                      try simp only [Act.put, List.setIfInBounds_toArray, List.set_cons_zero, List.set_cons_succ]
                    iterate 4
                      refine seq_skip (wanted_no rfl rfl rfl rfl) ?_
                      try simp only [Act.put, List.setIfInBounds_toArray, List.set_cons_zero, List.set_cons_succ]
                    iterate 1
                      refine seq_take (v := ?_) (wanted_un rfl) ?_ ?_
                      rotate_left
                      · go_simp
                        try with_reducible rfl
                      try simp only [Act.put, List.setIfInBounds_toArray, List.set_cons_zero, List.set_cons_succ]
                    refine seq_done ?_
                    go_wp2_with fail
                    go_meet
                    exact ⟨congrArg Value.bool (by rw [HY4.out]; first | rfl | (simp; done)), rfl⟩
                  iterate 4
                    refine seq_take (v := ?_) (wanted_yes rfl rfl rfl rfl) ?_ ?_
                    rotate_left
                    · go_simp
                      try with_reducible rfl
                    try simp only [Act.put, List.setIfInBounds_toArray, List.set_cons_zero, List.set_cons_succ]
                  iterate 2
                    refine seq_take (v := ?_) (wanted_un rfl) ?_ ?_
                    rotate_left
                    · go_simp
                      try with_reducible rfl
                    try simp only [Act.put, List.setIfInBounds_toArray, List.set_cons_zero, List.set_cons_succ]
                  cases g3
                  rotate_left
                  · iterate 4
                      refine seq_skip (wanted_no rfl rfl rfl rfl) ?_
                      try simp only [Act.put, List.setIfInBounds_toArray, List.set_cons_zero, List.set_cons_succ]
                    iterate 2
                      refine seq_take (v := ?_) (wanted_un rfl) ?_ ?_
                      rotate_left
                      · go_simp
                        try with_reducible rfl
                      try simp only [Act.put, List.setIfInBounds_toArray, List.set_cons_zero, List.set_cons_succ]
                    iterate 3
                      refine seq_skip (wanted_no rfl rfl rfl rfl) ?_
                      try simp only [Act.put, List.setIfInBounds_toArray, List.set_cons_zero, List.set_cons_succ]
                    iterate 2
                      refine seq_take (v := ?_) (wanted_un rfl) ?_ ?_
                      rotate_left
                      · go_simp
                        try with_reducible rfl
                      try simp only [Act.put, List.setIfInBounds_toArray, List.set_cons_zero, List.set_cons_succ]
                    iterate 3
                      refine seq_skip (wanted_no rfl rfl rfl rfl) ?_
                      try simp only [Act.put, List.setIfInBounds_toArray, List.set_cons_zero, List.set_cons_succ]
                    iterate 2
                      refine seq_take (v := ?_) (wanted_un rfl) ?_ ?_
                      rotate_left
                      · go_simp
                        try with_reducible rfl
                      try simp only [Act.put, List.setIfInBounds_toArray, List.set_cons_zero, List.set_cons_succ]
                    iterate 3
                      refine seq_skip (wanted_no rfl rfl rfl rfl) ?_
                      try simp only [Act.put, List.setIfInBounds_toArray, List.set_cons_zero, List.set_cons_succ]
                    iterate 2
                      refine seq_take (v := ?_) (wanted_un rfl) ?_ ?_
                      rotate_left
                      · go_simp
                        try with_reducible rfl
                      try simp only [Act.put, List.setIfInBounds_toArray, List.set_cons_zero, List.set_cons_succ]
                    iterate 3
                      refine seq_skip (wanted_no rfl rfl rfl rfl) ?_
                      try simp only [Act.put, List.setIfInBounds_toArray, List.set_cons_zero, List.set_cons_succ]
                    iterate 2
                      refine seq_take (v := ?_) (wanted_un rfl) ?_ ?_
                      rotate_left
                      · go_simp
                        try with_reducible rfl
                      try simp only [Act.put, List.setIfInBounds_toArray, List.set_cons_zero, List.set_cons_succ]
                    iterate 4
                      refine seq_skip (wanted_no rfl rfl rfl rfl) ?_
                      try simp only [Act.put, List.setIfInBounds_toArray, List.set_cons_zero, List.set_cons_succ]
                    iterate 1
                      refine seq_take (v := ?_) (wanted_un rfl) ?_ ?_
                      rotate_left
                      · go_simp
                        try with_reducible rfl
                      try simp only [Act.put, List.setIfInBounds_toArray, List.set_cons_zero, List.set_cons_succ]
                    refine seq_done ?_
                    go_wp2_with fail
                    go_meet
                    exact ⟨congrArg Value.bool (by rw [HY4.out]; first | rfl | (simp; done)), rfl⟩
                  iterate 4
                    refine seq_take (v := ?_) (wanted_yes rfl rfl rfl rfl) ?_ ?_
                    rotate_left
                    · go_simp
                      try with_reducible rfl
                    try simp only [Act.put, List.setIfInBounds_toArray, List.set_cons_zero, List.set_cons_succ]
                  iterate 2
                    refine seq_take (v := ?_) (wanted_un rfl) ?_ ?_
                    rotate_left
                    · go_simp
                      try with_reducible rfl
                    try simp only [Act.put, List.setIfInBounds_toArray, List.set_cons_zero, List.set_cons_succ]
                  cases g4
                  rotate_left
                  · iterate 3
                      refine seq_skip (wanted_no rfl rfl rfl rfl) ?_
                      try simp only [Act.put, List.setIfInBounds_toArray, List.set_cons_zero, List.set_cons_succ]
                    iterate 2
                      refine seq_take (v := ?_) (wanted_un rfl) ?_ ?_
                      rotate_left
                      · go_simp
                        try with_reducible rfl
                      try simp only [Act.put, List.setIfInBounds_toArray, List.set_cons_zero, List.set_cons_succ]
                    iterate 3
                      refine seq_skip (wanted_no rfl rfl rfl rfl) ?_
                      try simp only [Act.put, List.setIfInBounds_toArray, List.set_cons_zero, List.set_cons_succ]
                    iterate 2
                      refine seq_take (v := ?_) (wanted_un rfl) ?_ ?_
                      rotate_left
                      · go_simp
                        try with_reducible rfl
                      try simp only [Act.put, List.setIfInBounds_toArray, List.set_cons_zero, List.set_cons_succ]
                    iterate 3
                      refine seq_skip (wanted_no rfl rfl rfl rfl) ?_
                      try simp only [Act.put, List.setIfInBounds_toArray, List.set_cons_zero, List.set_cons_succ]
                    iterate 2
                      refine seq_take (v := ?_) (wanted_un rfl) ?_ ?_
                      rotate_left
                      · go_simp
                        try with_reducible rfl
                      try simp only [Act.put, List.setIfInBounds_toArray, List.set_cons_zero, List.set_cons_succ]
                    iterate 3
                      refine seq_skip (wanted_no rfl rfl rfl rfl) ?_
                      try simp only [Act.put, List.setIfInBounds_toArray, List.set_cons_zero, List.set_cons_succ]
                    iterate 2
                      refine seq_take (v := ?_) (wanted_un rfl) ?_ ?_
                      rotate_left
                      · go_simp
                        try with_reducible rfl
                      try simp only [Act.put, List.setIfInBounds_toArray, List.set_cons_zero, List.set_cons_succ]
                    iterate 4
                      refine seq_skip (wanted_no rfl rfl rfl rfl) ?_
                      try simp only [Act.put, List.setIfInBounds_toArray, List.set_cons_zero, List.set_cons_succ]
                    iterate 1
                      refine seq_take (v := ?_) (wanted_un rfl) ?_ ?_
                      rotate_left
                      · go_simp
                        try with_reducible rfl
                      try simp only [Act.put, List.setIfInBounds_toArray, List.set_cons_zero, List.set_cons_succ]
                    refine seq_done ?_
                    go_wp2_with fail
                    go_meet
                    exact ⟨congrArg Value.bool (by rw [HY4.out]; first | rfl | (simp; done)), rfl⟩
                  iterate 3
                    refine seq_take (v := ?_) (wanted_yes rfl rfl rfl rfl) ?_ ?_
                    rotate_left
                    · go_simp
                      try with_reducible rfl
                    try simp only [Act.put, List.setIfInBounds_toArray, List.set_cons_zero, List.set_cons_succ]
                  iterate 2
                    refine seq_take (v := ?_) (wanted_un rfl) ?_ ?_
                    rotate_left
                    · go_simp
                      try with_reducible rfl
                    try simp only [Act.put, List.setIfInBounds_toArray, List.set_cons_zero, List.set_cons_succ]
                  cases g5
                  rotate_left
                  · iterate 3
                      refine seq_skip (wanted_no rfl rfl rfl rfl) ?_
                      try simp only [Act.put, List.setIfInBounds_toArray, List.set_cons_zero, List.set_cons_succ]
                    iterate 2
                      refine seq_take (v := ?_) (wanted_un rfl) ?_ ?_
                      rotate_left
                      · go_simp
                        try with_reducible rfl
                      try simp only [Act.put, List.setIfInBounds_toArray, List.set_cons_zero, List.set_cons_succ]
                    iterate 3
                      refine seq_skip (wanted_no rfl rfl rfl rfl) ?_
                      try simp only [Act.put, List.setIfInBounds_toArray, List.set_cons_zero, List.set_cons_succ]
                    iterate 2
                      refine seq_take (v := ?_) (wanted_un rfl) ?_ ?_
                      rotate_left
                      · go_simp
                        try with_reducible rfl
                      try simp only [Act.put, List.setIfInBounds_toArray, List.set_cons_zero, List.set_cons_succ]
                    iterate 3
                      refine seq_skip (wanted_no rfl rfl rfl rfl) ?_
                      try simp only [Act.put, List.setIfInBounds_toArray, List.set_cons_zero, List.set_cons_succ]
                    iterate 2
                      refine seq_take (v := ?_) (wanted_un rfl) ?_ ?_
                      rotate_left
                      · go_simp
                        try with_reducible rfl
                      try simp only [Act.put, List.setIfInBounds_toArray, List.set_cons_zero, List.set_cons_succ]
                    iterate 4
                      refine seq_skip (wanted_no rfl rfl rfl rfl) ?_
                      try simp only [Act.put, List.setIfInBounds_toArray, List.set_cons_zero, List.set_cons_succ]
                    iterate 1
                      refine seq_take (v := ?_) (wanted_un rfl) ?_ ?_
                      rotate_left
                      · go_simp
                        try with_reducible rfl
                      try simp only [Act.put, List.setIfInBounds_toArray, List.set_cons_zero, List.set_cons_succ]
                    refine seq_done ?_
                    go_wp2_with fail
                    go_meet
                    exact ⟨congrArg Value.bool (by rw [HY4.out]; first | rfl | (simp; done)), rfl⟩
                  iterate 3
                    refine seq_take (v := ?_) (wanted_yes rfl rfl rfl rfl) ?_ ?_
                    rotate_left
                    · go_simp
                      try with_reducible rfl
                    try simp only [Act.put, List.setIfInBounds_toArray, List.set_cons_zero, List.set_cons_succ]
                  iterate 2
                    refine seq_take (v := ?_) (wanted_un rfl) ?_ ?_
                    rotate_left
                    · go_simp
                      try with_reducible rfl
                    try simp only [Act.put, List.setIfInBounds_toArray, List.set_cons_zero, List.set_cons_succ]
                  cases g6
                  rotate_left
                  · iterate 3
                      refine seq_skip (wanted_no rfl rfl rfl rfl) ?_
                      try simp only [Act.put, List.setIfInBounds_toArray, List.set_cons_zero, List.set_cons_succ]
                    iterate 2
                      refine seq_take (v := ?_) (wanted_un rfl) ?_ ?_
                      rotate_left
                      · go_simp
                        try with_reducible rfl
                      try simp only [Act.put, List.setIfInBounds_toArray, List.set_cons_zero, List.set_cons_succ]
                    iterate 3
                      refine seq_skip (wanted_no rfl rfl rfl rfl) ?_
                      try simp only [Act.put, List.setIfInBounds_toArray, List.set_cons_zero, List.set_cons_succ]
                    iterate 2
                      refine seq_take (v := ?_) (wanted_un rfl) ?_ ?_
                      rotate_left
                      · go_simp
                        try with_reducible rfl
                      try simp only [Act.put, List.setIfInBounds_toArray, List.set_cons_zero, List.set_cons_succ]
                    iterate 4
                      refine seq_skip (wanted_no rfl rfl rfl rfl) ?_
                      try simp only [Act.put, List.setIfInBounds_toArray, List.set_cons_zero, List.set_cons_succ]
                    iterate 1
                      refine seq_take (v := ?_) (wanted_un rfl) ?_ ?_
                      rotate_left
                      · go_simp
                        try with_reducible rfl
                      try simp only [Act.put, List.setIfInBounds_toArray, List.set_cons_zero, List.set_cons_succ]
                    refine seq_done ?_
                    go_wp2_with fail
                    go_meet
                    exact ⟨congrArg Value.bool (by rw [HY4.out]; first | rfl | (simp; done)), rfl⟩
                  iterate 3
                    refine seq_take (v := ?_) (wanted_yes rfl rfl rfl rfl) ?_ ?_
                    rotate_left
                    · go_simp
                      try with_reducible rfl
                    try simp only [Act.put, List.setIfInBounds_toArray, List.set_cons_zero, List.set_cons_succ]
                  iterate 2
                    refine seq_take (v := ?_) (wanted_un rfl) ?_ ?_
                    rotate_left
                    · go_simp
                      try with_reducible rfl
                    try simp only [Act.put, List.setIfInBounds_toArray, List.set_cons_zero, List.set_cons_succ]
                  cases g7
                  rotate_left
                  · iterate 3
                      refine seq_skip (wanted_no rfl rfl rfl rfl) ?_
                      try simp only [Act.put, List.setIfInBounds_toArray, List.set_cons_zero, List.set_cons_succ]
                    iterate 2
                      refine seq_take (v := ?_) (wanted_un rfl) ?_ ?_
                      rotate_left
                      · go_simp
                        try with_reducible rfl
                      try simp only [Act.put, List.setIfInBounds_toArray, List.set_cons_zero, List.set_cons_succ]
                    iterate 4
                      refine seq_skip (wanted_no rfl rfl rfl rfl) ?_
                      try simp only [Act.put, List.setIfInBounds_toArray, List.set_cons_zero, List.set_cons_succ]
                    iterate 1
                      refine seq_take (v := ?_) (wanted_un rfl) ?_ ?_
                      rotate_left
                      · go_simp
                        try with_reducible rfl
                      try simp only [Act.put, List.setIfInBounds_toArray, List.set_cons_zero, List.set_cons_succ]
                    refine seq_done ?_
                    go_wp2_with fail
                    go_meet
                    exact ⟨congrArg Value.bool (by rw [HY4.out]; first | rfl | (simp; done)), rfl⟩
                  iterate 3
                    refine seq_take (v := ?_) (wanted_yes rfl rfl rfl rfl) ?_ ?_
                    rotate_left
                    · go_simp
                      try with_reducible rfl
                    try simp only [Act.put, List.setIfInBounds_toArray, List.set_cons_zero, List.set_cons_succ]
                  iterate 2
                    refine seq_take (v := ?_) (wanted_un rfl) ?_ ?_
                    rotate_left
                    · go_simp
                      try with_reducible rfl
                    try simp only [Act.put, List.setIfInBounds_toArray, List.set_cons_zero, List.set_cons_succ]
                  cases g8
                  rotate_left
                  · iterate 4
                      refine seq_skip (wanted_no rfl rfl rfl rfl) ?_
                      try simp only [Act.put, List.setIfInBounds_toArray, List.set_cons_zero, List.set_cons_succ]
                    iterate 1
                      refine seq_take (v := ?_) (wanted_un rfl) ?_ ?_
                      rotate_left
                      · go_simp
                        try with_reducible rfl
                      try simp only [Act.put, List.setIfInBounds_toArray, List.set_cons_zero, List.set_cons_succ]
                    refine seq_done ?_
                    go_wp2_with fail
                    go_meet
                    exact ⟨congrArg Value.bool (by rw [HY4.out]; first | rfl | (simp; done)), rfl⟩
                  iterate 4
                    refine seq_take (v := ?_) (wanted_yes rfl rfl rfl rfl) ?_ ?_
                    rotate_left
                    · go_simp
                      try with_reducible rfl
                    try simp only [Act.put, List.setIfInBounds_toArray, List.set_cons_zero, List.set_cons_succ]
                  iterate 1
                    refine seq_take (v := ?_) (wanted_un rfl) ?_ ?_
                    rotate_left
                    · go_simp
                      try with_reducible rfl
                    try simp only [Act.put, List.setIfInBounds_toArray, List.set_cons_zero, List.set_cons_succ]
                  refine seq_done ?_
                  go_wp2_with fail
                  go_meet
                  exact ⟨congrArg Value.bool (by rw [HY4.out]; first | rfl | (simp; done)), rfl⟩
              case rest =>
                obtain ⟨rfl, hwc⟩ := hcut
                subst hwc
                clear eg1 eg2 eg3 eg4 eg5 eg6 eg7 eg8 eg9 HY4
                cases y4
                · have HN : Hid (TT = false) := Lib.hid (by rw [HT4.out]; rfl)
                  go_wp2
                  go_ret
                  exact ⟨ret_bool HN.out.symm, Hbel.out⟩
                · as_aux_lemma =>
                    have HZ : Hid ((sz ≤ 1048576 ∧ 0 ≤ sz) ∧ n3 ≤ 8) := Lib.hid (by
                      have := hy4.out
                      simp only [Bool.true_eq, Bool.and_eq_true, decide_eq_true_eq] at this
                      omega)
                    have HT5 : Hid (TT = (X.all ext19 && decide (sumX X = need19 sz))) := Lib.hid (by rw [HT4.out, Bool.true_and])
                    have ND := Lib.hid fun w1 => rneed_any sz w1 (by have := HZ.out; omega) (by have := HZ.out; omega)
                    clear HT4 hy4 f9 f10 f11 f12 f14
                    have hn8 := HZ.out.2
                    clear HZ
                    rw [show (!true) = false from rfl]
                    go_wp2
                    go_loopw [7, 8] (fun x i wr => ∃ k : Nat, k ≤ n3 ∧ i = .int .i64 k ∧ x = .int .i64 (sumX (X.take k)) ∧ (X.take k).all ext19 = true ∧ (0 ≤ sumX (X.take k) ∧ sumX (X.take k) ≤ 65536 * k) ∧ RowAt wr w.heap.size 33 [.string U, .slice A1 n1 c1, .string V, .string M, .string T, .int .i64 st, .string R, .int .i64 mi, .slice A2 n2 c2, .int .i64 as_, .int .i64 go_, .int .i64 or_, .int .i64 sz, .int .u32 su, .slice A3 n3 c3] ∧ Below w.heap.size w wr) (fun _ i _ => n3 - (intOf i).toNat)
                    case atStart => exact ⟨0, by omega, rfl, rfl, rfl, by simp [sumX], HR.out, Hbel.out⟩
                    case round =>
                      obtain ⟨k, hk, rfl, rfl, hall, ⟨hs0, hs1⟩, hr, hbel⟩ := hrel
                      clear HR Hbel
                      have HR := Lib.hid hr
                      have Hbel := Lib.hid hbel
                      clear hbel
                      have f14 := hr.cell (j := 14) rfl
                      by_cases hlt : k < n3
                      · obtain ⟨x, hx⟩ : ∃ x, X[k]? = some x := ⟨_, List.getElem?_eq_getElem (by rw [HL3.out]; omega)⟩
                        obtain ⟨b, off, rfl, hb, _, _⟩ := ext_at (Hin3.out.below Hbel.out) hx
                        have HC0 : ∀ W, Below w.heap.size w W → W.cell? ⟨b, off + k * 2, none⟩ = some (.int .i64 x.1) ∧ W.cell? ⟨b, off + k * 2 + 1, none⟩ = some (.int .i64 x.2) := fun W hW => by
                          obtain ⟨b', off', e', _, h1, h2⟩ := ext_at (Hin3.out.below hW) hx
                          simp only [Option.some.injEq, Addr.mk.injEq, and_true] at e'
                          obtain ⟨rfl, rfl⟩ := e'
                          exact ⟨h1, h2⟩
                        have Hsn := Lib.hid (sumX_snoc hx)
                        have Han := Lib.hid ((allX_snoc hx).trans (by rw [hall]; rfl : _ = ext19 x))
                        have HB := Lib.hid fun h : ext19 x = false => HT5.out.trans (show _ = false by rw [allX_bad hx h]; rfl)
                        clear hall hx hr
                        generalize sumX (X.take k) = S at *
                        obtain ⟨p, q⟩ := x
                        simp only at Hsn HC0
                        have HCx := Lib.hid HC0
                        clear HC0
                        rcases (show p < 0 ∨ (¬ p < 0 ∧ 65536 < p) ∨ (¬ p < 0 ∧ ¬ 65536 < p ∧ q < 1) ∨ (¬ p < 0 ∧ ¬ 65536 < p ∧ ¬ q < 1 ∧ 65536 - p < q) ∨ (¬ p < 0 ∧ ¬ 65536 < p ∧ ¬ q < 1 ∧ ¬ 65536 - p < q) by omega) with h2 | ⟨h2, h3⟩ | ⟨h2, h3, h4⟩ | ⟨h2, h3, h4, h5⟩ | ⟨h2, h3, h4, h5⟩
                        · have HN := Lib.hid (HB.out (by simp [ext19, upTo]; omega))
                          clear Hsn Han HB
                          have x1 := Lib.hid (show decide (p < 0) = true from decide_eq_true h2)
                          go_wp2
                          refine wp_region_plan (fun W => RowAt W w.heap.size 33 [.string U, .slice A1 n1 c1, .string V, .string M, .string T, .int .i64 st, .string R, .int .i64 mi, .slice A2 n2 c2, .int .i64 as_, .int .i64 go_, .int .i64 or_, .int .i64 sz, .int .u32 su, .slice (some ⟨b, off, none⟩) n3 c3] ∧ Below w.heap.size w W) [(0, true), (1, true), (2, true), (3, true), (4, true), (5, true), (6, true), (7, true), (8, true), (9, true), (10, true), (11, true), (12, true), (13, true), (14, true), (15, true), (16, true), (17, true), (18, true), (19, true), (20, true), (21, true), (22, true), (23, true), (24, true), (25, true), (26, true), (27, true), (28, true), (29, true), (30, true), (31, true), (32, true), (33, true), (34, true), (35, true), (36, true), (37, true), (38, true), (39, true), (40, true)] (by kernel_rfl) (by kernel_rfl) rfl (by kernel_rfl) (⟨HR.out.drewN 1, below_drewN Hbel.out 1⟩) ?_
                          intro w1 hH
                          iterate 8
                            refine plan_take (v := ?_) rfl (by rfl) ?_ ?_
                            rotate_left
                            · intro w2 hSw
                              have f14 := hSw.1.cell (j := 14) rfl
                              obtain ⟨cc0, cc1⟩ := HCx.out _ hSw.2
                              have yx1 := x1.out
                              clear hSw
                              go_simp
                              try with_reducible rfl
                            try simp only [Act.put, List.setIfInBounds_toArray, List.set_cons_zero, List.set_cons_succ]
                          iterate 7
                            refine plan_skip rfl (by rfl) ?_
                            try simp only [Act.put, List.setIfInBounds_toArray, List.set_cons_zero, List.set_cons_succ]
                          iterate 2
                            refine plan_take (v := ?_) rfl (by rfl) ?_ ?_
                            rotate_left
                            · intro w2 hSw
                              have f14 := hSw.1.cell (j := 14) rfl
                              obtain ⟨cc0, cc1⟩ := HCx.out _ hSw.2
                              have yx1 := x1.out
                              clear hSw
                              go_simp
                              try with_reducible rfl
                            try simp only [Act.put, List.setIfInBounds_toArray, List.set_cons_zero, List.set_cons_succ]
                          iterate 7
                            refine plan_skip rfl (by rfl) ?_
                            try simp only [Act.put, List.setIfInBounds_toArray, List.set_cons_zero, List.set_cons_succ]
                          iterate 2
                            refine plan_take (v := ?_) rfl (by rfl) ?_ ?_
                            rotate_left
                            · intro w2 hSw
                              have f14 := hSw.1.cell (j := 14) rfl
                              obtain ⟨cc0, cc1⟩ := HCx.out _ hSw.2
                              have yx1 := x1.out
                              clear hSw
                              go_simp
                              try with_reducible rfl
                            try simp only [Act.put, List.setIfInBounds_toArray, List.set_cons_zero, List.set_cons_succ]
                          iterate 14
                            refine plan_skip rfl (by rfl) ?_
                            try simp only [Act.put, List.setIfInBounds_toArray, List.set_cons_zero, List.set_cons_succ]
                          iterate 1
                            refine plan_take (v := ?_) rfl (by rfl) ?_ ?_
                            rotate_left
                            · intro w2 hSw
                              have f14 := hSw.1.cell (j := 14) rfl
                              obtain ⟨cc0, cc1⟩ := HCx.out _ hSw.2
                              have yx1 := x1.out
                              clear hSw
                              go_simp
                              try with_reducible rfl
                            try simp only [Act.put, List.setIfInBounds_toArray, List.set_cons_zero, List.set_cons_succ]
                          refine plan_done ?_
                          have yx1 := x1.out
                          go_wp2
                          go_ret
                          exact ⟨ret_bool HN.out.symm, hH.out.2⟩
                        · have HN := Lib.hid (HB.out (by simp [ext19, upTo]; omega))
                          clear Hsn Han HB
                          have x1 := Lib.hid (show decide (p < 0) = false from decide_eq_false h2)
                          have x2 := Lib.hid (show decide ((65536 : Int) < p) = true from decide_eq_true h3)
                          go_wp2
                          refine wp_region_plan (fun W => RowAt W w.heap.size 33 [.string U, .slice A1 n1 c1, .string V, .string M, .string T, .int .i64 st, .string R, .int .i64 mi, .slice A2 n2 c2, .int .i64 as_, .int .i64 go_, .int .i64 or_, .int .i64 sz, .int .u32 su, .slice (some ⟨b, off, none⟩) n3 c3] ∧ Below w.heap.size w W) [(0, true), (1, true), (2, true), (3, true), (4, true), (5, true), (6, true), (7, true), (8, true), (9, true), (10, true), (11, true), (12, true), (13, true), (14, true), (15, true), (16, true), (17, true), (18, true), (19, true), (20, true), (21, true), (22, true), (23, true), (24, true), (25, true), (26, true), (27, true), (28, true), (29, true), (30, true), (31, true), (32, true), (33, true), (34, true), (35, true), (36, true), (37, true), (38, true), (39, true), (40, true)] (by kernel_rfl) (by kernel_rfl) rfl (by kernel_rfl) (⟨HR.out.drewN 1, below_drewN Hbel.out 1⟩) ?_
                          intro w1 hH
                          iterate 17
                            refine plan_take (v := ?_) rfl (by rfl) ?_ ?_
                            rotate_left
                            · intro w2 hSw
                              have f14 := hSw.1.cell (j := 14) rfl
                              obtain ⟨cc0, cc1⟩ := HCx.out _ hSw.2
                              have yx1 := x1.out
                              have yx2 := x2.out
                              clear hSw
                              go_simp
                              try with_reducible rfl
                            try simp only [Act.put, List.setIfInBounds_toArray, List.set_cons_zero, List.set_cons_succ]
                          iterate 7
                            refine plan_skip rfl (by rfl) ?_
                            try simp only [Act.put, List.setIfInBounds_toArray, List.set_cons_zero, List.set_cons_succ]
                          iterate 2
                            refine plan_take (v := ?_) rfl (by rfl) ?_ ?_
                            rotate_left
                            · intro w2 hSw
                              have f14 := hSw.1.cell (j := 14) rfl
                              obtain ⟨cc0, cc1⟩ := HCx.out _ hSw.2
                              have yx1 := x1.out
                              have yx2 := x2.out
                              clear hSw
                              go_simp
                              try with_reducible rfl
                            try simp only [Act.put, List.setIfInBounds_toArray, List.set_cons_zero, List.set_cons_succ]
                          iterate 14
                            refine plan_skip rfl (by rfl) ?_
                            try simp only [Act.put, List.setIfInBounds_toArray, List.set_cons_zero, List.set_cons_succ]
                          iterate 1
                            refine plan_take (v := ?_) rfl (by rfl) ?_ ?_
                            rotate_left
                            · intro w2 hSw
                              have f14 := hSw.1.cell (j := 14) rfl
                              obtain ⟨cc0, cc1⟩ := HCx.out _ hSw.2
                              have yx1 := x1.out
                              have yx2 := x2.out
                              clear hSw
                              go_simp
                              try with_reducible rfl
                            try simp only [Act.put, List.setIfInBounds_toArray, List.set_cons_zero, List.set_cons_succ]
                          refine plan_done ?_
                          have yx1 := x1.out
                          have yx2 := x2.out
                          go_wp2
                          go_ret
                          exact ⟨ret_bool HN.out.symm, hH.out.2⟩
                        · have HN := Lib.hid (HB.out (by simp [ext19, upTo]; omega))
                          clear Hsn Han HB
                          have x1 := Lib.hid (show decide (p < 0) = false from decide_eq_false h2)
                          have x2 := Lib.hid (show decide ((65536 : Int) < p) = false from decide_eq_false h3)
                          have x3 := Lib.hid (show decide (q < 1) = true from decide_eq_true h4)
                          go_wp2
                          refine wp_region_plan (fun W => RowAt W w.heap.size 33 [.string U, .slice A1 n1 c1, .string V, .string M, .string T, .int .i64 st, .string R, .int .i64 mi, .slice A2 n2 c2, .int .i64 as_, .int .i64 go_, .int .i64 or_, .int .i64 sz, .int .u32 su, .slice (some ⟨b, off, none⟩) n3 c3] ∧ Below w.heap.size w W) [(0, true), (1, true), (2, true), (3, true), (4, true), (5, true), (6, true), (7, true), (8, true), (9, true), (10, true), (11, true), (12, true), (13, true), (14, true), (15, true), (16, true), (17, true), (18, true), (19, true), (20, true), (21, true), (22, true), (23, true), (24, true), (25, true), (26, true), (27, true), (28, true), (29, true), (30, true), (31, true), (32, true), (33, true), (34, true), (35, true), (36, true), (37, true), (38, true), (39, true), (40, true)] (by kernel_rfl) (by kernel_rfl) rfl (by kernel_rfl) (⟨HR.out.drewN 1, below_drewN Hbel.out 1⟩) ?_
                          intro w1 hH
                          iterate 26
                            refine plan_take (v := ?_) rfl (by rfl) ?_ ?_
                            rotate_left
                            · intro w2 hSw
                              have f14 := hSw.1.cell (j := 14) rfl
                              obtain ⟨cc0, cc1⟩ := HCx.out _ hSw.2
                              have yx1 := x1.out
                              have yx2 := x2.out
                              have yx3 := x3.out
                              clear hSw
                              go_simp
                              try with_reducible rfl
                            try simp only [Act.put, List.setIfInBounds_toArray, List.set_cons_zero, List.set_cons_succ]
                          iterate 14
                            refine plan_skip rfl (by rfl) ?_
                            try simp only [Act.put, List.setIfInBounds_toArray, List.set_cons_zero, List.set_cons_succ]
                          iterate 1
                            refine plan_take (v := ?_) rfl (by rfl) ?_ ?_
                            rotate_left
                            · intro w2 hSw
                              have f14 := hSw.1.cell (j := 14) rfl
                              obtain ⟨cc0, cc1⟩ := HCx.out _ hSw.2
                              have yx1 := x1.out
                              have yx2 := x2.out
                              have yx3 := x3.out
                              clear hSw
                              go_simp
                              try with_reducible rfl
                            try simp only [Act.put, List.setIfInBounds_toArray, List.set_cons_zero, List.set_cons_succ]
                          refine plan_done ?_
                          have yx1 := x1.out
                          have yx2 := x2.out
                          have yx3 := x3.out
                          go_wp2
                          go_ret
                          exact ⟨ret_bool HN.out.symm, hH.out.2⟩
                        · have HN := Lib.hid (HB.out (by simp [ext19, upTo]; omega))
                          clear Hsn Han HB
                          have x1 := Lib.hid (show decide (p < 0) = false from decide_eq_false h2)
                          have x2 := Lib.hid (show decide ((65536 : Int) < p) = false from decide_eq_false h3)
                          have x3 := Lib.hid (show decide (q < 1) = false from decide_eq_false h4)
                          have x4 := Lib.hid (show decide (65536 - p < q) = true from decide_eq_true h5)
                          have xw := Lib.hid (show IntKind.i64.wrap (65536 - p) = 65536 - p from IntWalk.i64_in _ ⟨by omega, by omega⟩)
                          go_wp2
                          refine wp_region_plan (fun W => RowAt W w.heap.size 33 [.string U, .slice A1 n1 c1, .string V, .string M, .string T, .int .i64 st, .string R, .int .i64 mi, .slice A2 n2 c2, .int .i64 as_, .int .i64 go_, .int .i64 or_, .int .i64 sz, .int .u32 su, .slice (some ⟨b, off, none⟩) n3 c3] ∧ Below w.heap.size w W) [(0, true), (1, true), (2, true), (3, true), (4, true), (5, true), (6, true), (7, true), (8, true), (9, true), (10, true), (11, true), (12, true), (13, true), (14, true), (15, true), (16, true), (17, true), (18, true), (19, true), (20, true), (21, true), (22, true), (23, true), (24, true), (25, true), (26, true), (27, true), (28, true), (29, true), (30, true), (31, true), (32, true), (33, true), (34, true), (35, true), (36, true), (37, true), (38, true), (39, true), (40, true)] (by kernel_rfl) (by kernel_rfl) rfl (by kernel_rfl) (⟨HR.out.drewN 1, below_drewN Hbel.out 1⟩) ?_
                          intro w1 hH
                          iterate 41
                            refine plan_take (v := ?_) rfl (by rfl) ?_ ?_
                            rotate_left
                            · intro w2 hSw
                              have f14 := hSw.1.cell (j := 14) rfl
                              obtain ⟨cc0, cc1⟩ := HCx.out _ hSw.2
                              have yx1 := x1.out
                              have yx2 := x2.out
                              have yx3 := x3.out
                              have yx4 := x4.out
                              have yxw := xw.out
                              clear hSw
                              go_simp
                              try with_reducible rfl
                            try simp only [Act.put, List.setIfInBounds_toArray, List.set_cons_zero, List.set_cons_succ]
                          refine plan_done ?_
                          have yx1 := x1.out
                          have yx2 := x2.out
                          have yx3 := x3.out
                          have yx4 := x4.out
                          have yxw := xw.out
                          go_wp2
                          go_ret
                          exact ⟨ret_bool HN.out.symm, hH.out.2⟩
                        · have HN := Lib.hid (Han.out.trans (by simp [ext19, upTo]; omega : _ = true))
                          clear Han HB
                          have x1 := Lib.hid (show decide (p < 0) = false from decide_eq_false h2)
                          have x2 := Lib.hid (show decide ((65536 : Int) < p) = false from decide_eq_false h3)
                          have x3 := Lib.hid (show decide (q < 1) = false from decide_eq_false h4)
                          have x4 := Lib.hid (show decide (65536 - p < q) = false from decide_eq_false h5)
                          have xw := Lib.hid (show IntKind.i64.wrap (65536 - p) = 65536 - p from IntWalk.i64_in _ ⟨by omega, by omega⟩)
                          have xs := Lib.hid (show IntKind.i64.wrap (S + q) = S + q from IntWalk.i64_in _ ⟨by omega, by omega⟩)
                          go_wp2
                          refine wp_region_plan (fun W => RowAt W w.heap.size 33 [.string U, .slice A1 n1 c1, .string V, .string M, .string T, .int .i64 st, .string R, .int .i64 mi, .slice A2 n2 c2, .int .i64 as_, .int .i64 go_, .int .i64 or_, .int .i64 sz, .int .u32 su, .slice (some ⟨b, off, none⟩) n3 c3] ∧ Below w.heap.size w W) [(0, true), (1, true), (2, true), (3, true), (4, true), (5, true), (6, true), (7, true), (8, true), (9, true), (10, true), (11, true), (12, true), (13, true), (14, true), (15, true), (16, true), (17, true), (18, true), (19, true), (20, true), (21, true), (22, true), (23, true), (24, true), (25, true), (26, true), (27, true), (28, true), (29, true), (30, true), (31, true), (32, true), (33, true), (34, true), (35, true), (36, true), (37, true), (38, true), (39, true), (40, true)] (by kernel_rfl) (by kernel_rfl) rfl (by kernel_rfl) (⟨HR.out.drewN 1, below_drewN Hbel.out 1⟩) ?_
                          intro w1 hH
                          iterate 41
                            refine plan_take (v := ?_) rfl (by rfl) ?_ ?_
                            rotate_left
                            · intro w2 hSw
                              have f14 := hSw.1.cell (j := 14) rfl
                              obtain ⟨cc0, cc1⟩ := HCx.out _ hSw.2
                              have yx1 := x1.out
                              have yx2 := x2.out
                              have yx3 := x3.out
                              have yx4 := x4.out
                              have yxw := xw.out
                              clear hSw
                              go_simp
                              try with_reducible rfl
                            try simp only [Act.put, List.setIfInBounds_toArray, List.set_cons_zero, List.set_cons_succ]
                          refine plan_done ?_
                          have yx1 := x1.out
                          have yx2 := x2.out
                          have yx3 := x3.out
                          have yx4 := x4.out
                          have yxw := xw.out
                          have f14 := hH.out.1.cell (j := 14) rfl
                          obtain ⟨cc0, cc1⟩ := HCx.out _ hH.out.2
                          have ys := xs.out
                          go_wp2
                          go_roundw
                          case rel => exact ⟨k + 1, by omega, by go_num, by rw [Hsn.out], HN.out, by rw [Hsn.out]; omega, hH.out.1, hH.out.2⟩
                          case measure => simp [intOf]; omega
                      · have e : X.take k = X := List.take_of_length_le (by rw [HL3.out]; omega)
                        rw [e] at hall hs0 hs1 ⊢
                        have HN : Hid (TT = decide (sumX X = need19 sz)) := Lib.hid (by rw [HT5.out, hall, Bool.true_and])
                        have f12 := hr.cell (j := 12) rfl
                        clear hall e hr HT5
                        generalize sumX X = S at *
                        generalize need19 sz = nd at *
                        go_wp2_with (go_at_call 33; (with_reducible refine (ND.out _).mono ?_); rintro e w2 ⟨rfl, rfl⟩)
                        go_ret
                        exact ⟨ret_bool (by rw [HN.out]; first | rfl | exact beqI _ _), Hbel.out⟩
end Go.Proofs.YtkodeeneljkgeaaDoor
