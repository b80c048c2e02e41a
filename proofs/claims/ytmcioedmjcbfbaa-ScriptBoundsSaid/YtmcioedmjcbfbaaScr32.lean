/- Walk of layer 27: two deeds compared, by the code. Condition: slices within 10^9. -/
import Derived.Test.YtmcioedmjcbfbaaSb
namespace Go.Proofs.Ytmcioedmjcbfbaa
open Go.RowKit IH
set_option maxRecDepth 100000
set_option maxHeartbeats 8000000 in
theorem ssame_any (a b : Deed) (AB AC AK DB DC DK : Option Addr) (nB cB nC cC nK cK mB eB mC eC mK eK : Nat) (w : World)
    (hB : SliceIn w w.heap.size 1 AB nB cB (bytesV a.b)) (hC : SliceIn w w.heap.size 1 AC nC cC (intsV a.calls)) (hK : SliceIn w w.heap.size 1 AK nK cK (boolsV a.keep))
    (gB : SliceIn w w.heap.size 1 DB mB eB (bytesV b.b)) (gC : SliceIn w w.heap.size 1 DC mC eC (intsV b.calls)) (gK : SliceIn w w.heap.size 1 DK mK eK (boolsV b.keep)) (h63 : nB ≤ 1000000000 ∧ nC ≤ 1000000000 ∧ nK ≤ 1000000000) :
    Calls Try.prog 70 #[.agg (cells8 a (.slice AB nB cB) (.slice AC nC cC) (.slice AK nK cK)).toArray, .agg (cells8 b (.slice DB mB eB) (.slice DC mC eC) (.slice DK mK eK)).toArray] w fun e w' => e = .returned (.bool (sameD a b)) ∧ Below w.heap.size w w' := by
  rw [c8, c8]
  obtain ⟨g0, hg0⟩ : ∃ g0, w.heap.size = g0 := ⟨_, rfl⟩
  rw [hg0]
  obtain ⟨w1, hw1⟩ : ∃ w1, w.alloc (.cells (cells8 a (.slice AB nB cB) (.slice AC nC cC) (.slice AK nK cK)).toArray 53) = w1 := ⟨_, rfl⟩
  obtain ⟨w2, hw2⟩ : ∃ w2, w1.alloc (.cells (cells8 b (.slice DB mB eB) (.slice DC mC eC) (.slice DK mK eK)).toArray 53) = w2 := ⟨_, rfl⟩
  have hz1 : w1.heap.size = g0 + 1 := by rw [← hw1]; simp [hg0]
  have B2 : Hid (Below g0 w w2) := Lib.hid (by rw [← hw2, ← hw1]; exact ((Below.refl _ _).alloc (by omega) _).alloc (by simp; omega) _)
  have R1 : RowAt w2 g0 53 (cells8 a (.slice AB nB cB) (.slice AC nC cC) (.slice AK nK cK)) := by rw [← hw2, ← hw1, ← hg0]; exact (RowAt.new w _ _).alloc _
  have R2 : RowAt w2 (g0 + 1) 53 (cells8 b (.slice DB mB eB) (.slice DC mC eC) (.slice DK mK eK)) := by rw [← hw2, ← hz1]; exact RowAt.new w1 _ _
  have lC : a.calls.length = nC := by have := hC.1; rw [intsV_length] at this; omega
  have lD : b.calls.length = mC := by have := gC.1; rw [intsV_length] at this; omega
  have lK : a.keep.length = nK := by have := hK.1; rw [boolsV_length] at this; omega
  have lL : b.keep.length = mK := by have := gK.1; rw [boolsV_length] at this; omega
  rw [hg0] at hB hC hK gB gC gK
  have hz2 : g0 ≤ w2.heap.size := by have := B2.out.size; omega
  have HB := Lib.hid (hB.below B2.out)
  have GB := Lib.hid (gB.below B2.out)
  have HC := Lib.hid (hC.below B2.out)
  have HK := Lib.hid (hK.below B2.out)
  have GC := Lib.hid (gC.below B2.out)
  have GK := Lib.hid (gK.below B2.out)
  rw [c8] at hw1 hw2
  have hsb : ((⟨a.b.toArray⟩ : ByteArray).toList == (⟨b.b.toArray⟩ : ByteArray).toList) = (a.b == b.b) := by rw [ByteArray.toList_eq, ByteArray.toList_eq]
  have HS : Hid (sameD a b = ((a.kind == b.kind) && ((a.conn == b.conn) && ((a.n == b.n) && ((a.b == b.b) && ((a.torn == b.torn) && ((a.part == b.part) && ((a.calls == b.calls) && (a.keep == b.keep))))))))) := Lib.hid rfl
  have c0 := R1.cell (j := 0) rfl
  have d0 := R2.cell (j := 0) rfl
  have c1 := R1.cell (j := 1) rfl
  have d1 := R2.cell (j := 1) rfl
  have c2 := R1.cell (j := 2) rfl
  have d2 := R2.cell (j := 2) rfl
  have c3 := R1.cell (j := 3) rfl
  have d3 := R2.cell (j := 3) rfl
  have c4 := R1.cell (j := 4) rfl
  have d4 := R2.cell (j := 4) rfl
  have c5 := R1.cell (j := 5) rfl
  have d5 := R2.cell (j := 5) rfl
  have c6 := R1.cell (j := 6) rfl
  have d6 := R2.cell (j := 6) rfl
  have c7 := R1.cell (j := 7) rfl
  have d7 := R2.cell (j := 7) rfl
  generalize (⟨a.b.toArray⟩ : ByteArray) = Xa at *
  generalize (⟨b.b.toArray⟩ : ByteArray) = Xb at *
  have n_kind : (a.kind != b.kind) = !(a.kind == b.kind) := rfl
  have n_conn : (a.conn != b.conn) = !(a.conn == b.conn) := rfl
  have n_n : (a.n != b.n) = !(a.n == b.n) := rfl
  have n_torn : (a.torn != b.torn) = !(a.torn == b.torn) := rfl
  have n_part : (a.part != b.part) = !(a.part == b.part) := rfl
  have n_b : (Xa.toList != Xb.toList) = !(a.b == b.b) := by rw [← hsb]; rfl
  obtain ⟨tk, hk⟩ : ∃ t, (a.kind == b.kind) = t := ⟨_, rfl⟩
  obtain ⟨tc, hc⟩ : ∃ t, (a.conn == b.conn) = t := ⟨_, rfl⟩
  obtain ⟨tn, hn⟩ : ∃ t, (a.n == b.n) = t := ⟨_, rfl⟩
  obtain ⟨tb, hb⟩ : ∃ t, (a.b == b.b) = t := ⟨_, rfl⟩
  obtain ⟨tt, ht⟩ : ∃ t, (a.torn == b.torn) = t := ⟨_, rfl⟩
  obtain ⟨tp, hp⟩ : ∃ t, (a.part == b.part) = t := ⟨_, rfl⟩
  obtain ⟨tC, hCC⟩ : ∃ t, (a.calls == b.calls) = t := ⟨_, rfl⟩
  obtain ⟨tK, hKK⟩ : ∃ t, (a.keep == b.keep) = t := ⟨_, rfl⟩
  rw [hk, hc, hn, hb, ht, hp, hCC, hKK] at HS
  rw [hk] at n_kind
  rw [hc] at n_conn
  rw [hn] at n_n
  rw [hb] at n_b hsb
  rw [ht] at n_torn
  rw [hp] at n_part
  have HCC := Lib.hid hCC
  have HKK := Lib.hid hKK
  have LC := Lib.hid lC
  have LD := Lib.hid lD
  have LK := Lib.hid lK
  have LL := Lib.hid lL
  obtain ⟨xk, hxk⟩ : ∃ x, a.kind = x := ⟨_, rfl⟩
  obtain ⟨xc, hxc⟩ : ∃ x, a.conn = x := ⟨_, rfl⟩
  obtain ⟨xn, hxn⟩ : ∃ x, a.n = x := ⟨_, rfl⟩
  obtain ⟨xt, hxt⟩ : ∃ x, a.torn = x := ⟨_, rfl⟩
  obtain ⟨xp, hxp⟩ : ∃ x, a.part = x := ⟨_, rfl⟩
  obtain ⟨yk, hyk⟩ : ∃ x, b.kind = x := ⟨_, rfl⟩
  obtain ⟨yc, hyc⟩ : ∃ x, b.conn = x := ⟨_, rfl⟩
  obtain ⟨yn, hyn⟩ : ∃ x, b.n = x := ⟨_, rfl⟩
  obtain ⟨yt, hyt⟩ : ∃ x, b.torn = x := ⟨_, rfl⟩
  obtain ⟨yp, hyp⟩ : ∃ x, b.part = x := ⟨_, rfl⟩
  rw [hxk] at c0 hk n_kind hw1 ⊢
  rw [hxc] at c1 hc n_conn hw1 ⊢
  rw [hxn] at c2 hn n_n hw1 ⊢
  rw [hxt] at c6 ht n_torn hw1 ⊢
  rw [hxp] at c7 hp n_part hw1 ⊢
  rw [hyk] at d0 hk n_kind hw2 ⊢
  rw [hyc] at d1 hc n_conn hw2 ⊢
  rw [hyn] at d2 hn n_n hw2 ⊢
  rw [hyt] at d6 ht n_torn hw2 ⊢
  rw [hyp] at d7 hp n_part hw2 ⊢
  rw [HS.out]
  have EB : Hid (∀ W, Below w2.heap.size w2 W → Calls Try.prog 91 #[.slice AB nB cB, .slice DB mB eB] W fun e w' => e = .returned (.bool tb) ∧ ∃ q, w' = W.drewN q) := Lib.hid (fun W hW => by
    have := sEqual_bytes AB DB nB cB mB eB a.b b.b W (((HB.out.more hz2).below hW).more hW.size) (((GB.out.more hz2).below hW).more hW.size) h63.1
    rw [hb] at this
    exact this)
  have EC : Hid (∀ W, Below w2.heap.size w2 W → Calls Try.prog 92 #[.slice AC nC cC, .slice DC mC eC] W fun e w' => e = .returned (.bool tC) ∧ ∃ q, w' = W.drewN q) := Lib.hid (fun W hW => by
    have := sEqual_ints AC DC nC cC mC eC a.calls b.calls W (((HC.out.more hz2).below hW).more hW.size) (((GC.out.more hz2).below hW).more hW.size) h63.2.1
    rw [HCC.out] at this
    exact this)
  have EK : Hid (∀ W, Below w2.heap.size w2 W → Calls Try.prog 93 #[.slice AK nK cK, .slice DK mK eK] W fun e w' => e = .returned (.bool tK) ∧ ∃ q, w' = W.drewN q) := Lib.hid (fun W hW => by
    have := sEqual_bools AK DK nK cK mK eK a.keep b.keep W (((HK.out.more hz2).below hW).more hW.size) (((GK.out.more hz2).below hW).more hW.size) h63.2.2
    rw [HKK.out] at this
    exact this)
  clear hCC hKK lC lD lK lL hxk hxc hxn hxt hxp hyk hyc hyn hyt hyp HS R1 R2 hB hC hK gB gC gK HB GB HC GC HK GK n_b hsb hb HCC HKK LC LD LK LL n_kind n_conn n_n n_torn n_part
  go_enter Try.func70, Try.ntmps70
  go_upto_region 1 with fail
  go_cut [5] from 6 to 42 (fun s5 wx => s5 = .bool (tk && (tc && (tn && (tt && tp)))) ∧ wx = w2)
  case first =>
    refine wp_region_seq ?_
    iterate 6
      refine seq_take (v := ?_) (wanted_un rfl) ?_ ?_
      rotate_left
      · go_simp
        try with_reducible rfl
      try simp only [Act.put, List.setIfInBounds_toArray, List.set_cons_zero, List.set_cons_succ]
    cases tk
    · iterate 5
        refine seq_skip (wanted_no rfl rfl rfl rfl) ?_
        try simp only [Act.put, List.setIfInBounds_toArray, List.set_cons_zero, List.set_cons_succ]
      iterate 2
        refine seq_take (v := ?_) (wanted_un rfl) ?_ ?_
        rotate_left
        · go_simp
          try with_reducible rfl
        try simp only [Act.put, List.setIfInBounds_toArray, List.set_cons_zero, List.set_cons_succ]
      iterate 5
        refine seq_skip (wanted_no rfl rfl rfl rfl) ?_
        try simp only [Act.put, List.setIfInBounds_toArray, List.set_cons_zero, List.set_cons_succ]
      iterate 2
        refine seq_take (v := ?_) (wanted_un rfl) ?_ ?_
        rotate_left
        · go_simp
          try with_reducible rfl
        try simp only [Act.put, List.setIfInBounds_toArray, List.set_cons_zero, List.set_cons_succ]
      iterate 7
        refine seq_skip (wanted_no rfl rfl rfl rfl) ?_
        try simp only [Act.put, List.setIfInBounds_toArray, List.set_cons_zero, List.set_cons_succ]
      iterate 2
        refine seq_take (v := ?_) (wanted_un rfl) ?_ ?_
        rotate_left
        · go_simp
          try with_reducible rfl
        try simp only [Act.put, List.setIfInBounds_toArray, List.set_cons_zero, List.set_cons_succ]
      iterate 7
        refine seq_skip (wanted_no rfl rfl rfl rfl) ?_
        try simp only [Act.put, List.setIfInBounds_toArray, List.set_cons_zero, List.set_cons_succ]
      iterate 2
        refine seq_take (v := ?_) (wanted_un rfl) ?_ ?_
        rotate_left
        · go_simp
          try with_reducible rfl
        try simp only [Act.put, List.setIfInBounds_toArray, List.set_cons_zero, List.set_cons_succ]
      refine seq_done ?_
      go_wp2_with fail
      go_meet
      exact ⟨rfl, rfl⟩
    iterate 5
      refine seq_take (v := ?_) (wanted_yes rfl rfl rfl rfl) ?_ ?_
      rotate_left
      · go_simp
        try with_reducible rfl
      try simp only [Act.put, List.setIfInBounds_toArray, List.set_cons_zero, List.set_cons_succ]
    iterate 2
      refine seq_take (v := ?_) (wanted_un rfl) ?_ ?_
      rotate_left
      · go_simp
        try with_reducible rfl
      try simp only [Act.put, List.setIfInBounds_toArray, List.set_cons_zero, List.set_cons_succ]
    cases tc
    · iterate 5
        refine seq_skip (wanted_no rfl rfl rfl rfl) ?_
        try simp only [Act.put, List.setIfInBounds_toArray, List.set_cons_zero, List.set_cons_succ]
      iterate 2
        refine seq_take (v := ?_) (wanted_un rfl) ?_ ?_
        rotate_left
        · go_simp
          try with_reducible rfl
        try simp only [Act.put, List.setIfInBounds_toArray, List.set_cons_zero, List.set_cons_succ]
      iterate 7
        refine seq_skip (wanted_no rfl rfl rfl rfl) ?_
        try simp only [Act.put, List.setIfInBounds_toArray, List.set_cons_zero, List.set_cons_succ]
      iterate 2
        refine seq_take (v := ?_) (wanted_un rfl) ?_ ?_
        rotate_left
        · go_simp
          try with_reducible rfl
        try simp only [Act.put, List.setIfInBounds_toArray, List.set_cons_zero, List.set_cons_succ]
      iterate 7
        refine seq_skip (wanted_no rfl rfl rfl rfl) ?_
        try simp only [Act.put, List.setIfInBounds_toArray, List.set_cons_zero, List.set_cons_succ]
      iterate 2
        refine seq_take (v := ?_) (wanted_un rfl) ?_ ?_
        rotate_left
        · go_simp
          try with_reducible rfl
        try simp only [Act.put, List.setIfInBounds_toArray, List.set_cons_zero, List.set_cons_succ]
      refine seq_done ?_
      go_wp2_with fail
      go_meet
      exact ⟨rfl, rfl⟩
    iterate 5
      refine seq_take (v := ?_) (wanted_yes rfl rfl rfl rfl) ?_ ?_
      rotate_left
      · go_simp
        try with_reducible rfl
      try simp only [Act.put, List.setIfInBounds_toArray, List.set_cons_zero, List.set_cons_succ]
    iterate 2
      refine seq_take (v := ?_) (wanted_un rfl) ?_ ?_
      rotate_left
      · go_simp
        try with_reducible rfl
      try simp only [Act.put, List.setIfInBounds_toArray, List.set_cons_zero, List.set_cons_succ]
    cases tn
    · iterate 7
        refine seq_skip (wanted_no rfl rfl rfl rfl) ?_
        try simp only [Act.put, List.setIfInBounds_toArray, List.set_cons_zero, List.set_cons_succ]
      iterate 2
        refine seq_take (v := ?_) (wanted_un rfl) ?_ ?_
        rotate_left
        · go_simp
          try with_reducible rfl
        try simp only [Act.put, List.setIfInBounds_toArray, List.set_cons_zero, List.set_cons_succ]
      iterate 7
        refine seq_skip (wanted_no rfl rfl rfl rfl) ?_
        try simp only [Act.put, List.setIfInBounds_toArray, List.set_cons_zero, List.set_cons_succ]
      iterate 2
        refine seq_take (v := ?_) (wanted_un rfl) ?_ ?_
        rotate_left
        · go_simp
          try with_reducible rfl
        try simp only [Act.put, List.setIfInBounds_toArray, List.set_cons_zero, List.set_cons_succ]
      refine seq_done ?_
      go_wp2_with fail
      go_meet
      exact ⟨rfl, rfl⟩
    iterate 7
      refine seq_take (v := ?_) (wanted_yes rfl rfl rfl rfl) ?_ ?_
      rotate_left
      · go_simp
        try with_reducible rfl
      try simp only [Act.put, List.setIfInBounds_toArray, List.set_cons_zero, List.set_cons_succ]
    iterate 2
      refine seq_take (v := ?_) (wanted_un rfl) ?_ ?_
      rotate_left
      · go_simp
        try with_reducible rfl
      try simp only [Act.put, List.setIfInBounds_toArray, List.set_cons_zero, List.set_cons_succ]
    cases tt
    · iterate 7
        refine seq_skip (wanted_no rfl rfl rfl rfl) ?_
        try simp only [Act.put, List.setIfInBounds_toArray, List.set_cons_zero, List.set_cons_succ]
      iterate 2
        refine seq_take (v := ?_) (wanted_un rfl) ?_ ?_
        rotate_left
        · go_simp
          try with_reducible rfl
        try simp only [Act.put, List.setIfInBounds_toArray, List.set_cons_zero, List.set_cons_succ]
      refine seq_done ?_
      go_wp2_with fail
      go_meet
      exact ⟨rfl, rfl⟩
    iterate 7
      refine seq_take (v := ?_) (wanted_yes rfl rfl rfl rfl) ?_ ?_
      rotate_left
      · go_simp
        try with_reducible rfl
      try simp only [Act.put, List.setIfInBounds_toArray, List.set_cons_zero, List.set_cons_succ]
    iterate 1
      refine seq_take (v := ?_) (wanted_un rfl) ?_ ?_
      rotate_left
      · go_simp
        try with_reducible rfl
      try simp only [Act.put, List.setIfInBounds_toArray, List.set_cons_zero, List.set_cons_succ]
    cases tp
    · iterate 1
        refine seq_take (v := ?_) (wanted_un rfl) ?_ ?_
        rotate_left
        · go_simp
          try with_reducible rfl
        try simp only [Act.put, List.setIfInBounds_toArray, List.set_cons_zero, List.set_cons_succ]
      refine seq_done ?_
      go_wp2_with fail
      go_meet
      exact ⟨rfl, rfl⟩
    iterate 1
      refine seq_take (v := ?_) (wanted_un rfl) ?_ ?_
      rotate_left
      · go_simp
        try with_reducible rfl
      try simp only [Act.put, List.setIfInBounds_toArray, List.set_cons_zero, List.set_cons_succ]
    refine seq_done ?_
    go_wp2_with fail
    go_meet
    exact ⟨rfl, rfl⟩
  case rest =>
    obtain ⟨rfl, rfl⟩ := hcut
    obtain ⟨t1, ht1⟩ : ∃ t, (tk && (tc && (tn && (tt && tp)))) = t := ⟨_, rfl⟩
    have HF : Hid ((tk && (tc && (tn && (tb && (tt && (tp && (tC && tK))))))) = (t1 && (tb && (tC && tK)))) := Lib.hid (by rw [← ht1]; cases tk <;> cases tc <;> cases tn <;> cases tb <;> cases tt <;> cases tp <;> rfl)
    rw [ht1]
    clear ht1
    go_upto_region 2 with fail
    refine wp_region_seq ?_
    iterate 2
      refine seq_take (v := ?_) (wanted_un rfl) ?_ ?_
      rotate_left
      · go_simp
        try with_reducible rfl
      try simp only [Act.put, List.setIfInBounds_toArray, List.set_cons_zero, List.set_cons_succ]
    cases t1
    · iterate 5
        refine seq_skip (wanted_no rfl rfl rfl rfl) ?_
        try simp only [Act.put, List.setIfInBounds_toArray, List.set_cons_zero, List.set_cons_succ]
      iterate 2
        refine seq_take (v := ?_) (wanted_un rfl) ?_ ?_
        rotate_left
        · go_simp
          try with_reducible rfl
        try simp only [Act.put, List.setIfInBounds_toArray, List.set_cons_zero, List.set_cons_succ]
      iterate 5
        refine seq_skip (wanted_no rfl rfl rfl rfl) ?_
        try simp only [Act.put, List.setIfInBounds_toArray, List.set_cons_zero, List.set_cons_succ]
      iterate 2
        refine seq_take (v := ?_) (wanted_un rfl) ?_ ?_
        rotate_left
        · go_simp
          try with_reducible rfl
        try simp only [Act.put, List.setIfInBounds_toArray, List.set_cons_zero, List.set_cons_succ]
      iterate 7
        refine seq_skip (wanted_no rfl rfl rfl rfl) ?_
        try simp only [Act.put, List.setIfInBounds_toArray, List.set_cons_zero, List.set_cons_succ]
      iterate 2
        refine seq_take (v := ?_) (wanted_un rfl) ?_ ?_
        rotate_left
        · go_simp
          try with_reducible rfl
        try simp only [Act.put, List.setIfInBounds_toArray, List.set_cons_zero, List.set_cons_succ]
      refine seq_done ?_
      go_wp2
      go_ret
      rw [HF.out]
      refine ⟨ret_bool ?_, ?_⟩
      · first | rfl | simp
      first | exact B2.out | exact below_drewN B2.out _ | exact below_drewN (below_drewN B2.out _) _ | exact below_drewN (below_drewN (below_drewN B2.out _) _) _
    iterate 4
      refine seq_take (v := ?_) (wanted_yes rfl rfl rfl rfl) ?_ ?_
      rotate_left
      · go_simp
        try with_reducible rfl
      try simp only [Act.put, List.setIfInBounds_toArray, List.set_cons_zero, List.set_cons_succ]
    refine seq_move (wanted_yes rfl rfl rfl rfl) (fun K hK => ?_)
    go_simp
    (with_reducible refine (EB.out _ (Below.refl _ _)).mono ?_)
    rintro e w3 ⟨rfl, q3, rfl⟩
    refine hK.out _ _ ?_
    clear hK K
    try simp only [Act.put, List.setIfInBounds_toArray, List.set_cons_zero, List.set_cons_succ]
    iterate 2
      refine seq_take (v := ?_) (wanted_un rfl) ?_ ?_
      rotate_left
      · go_simp
        try with_reducible rfl
      try simp only [Act.put, List.setIfInBounds_toArray, List.set_cons_zero, List.set_cons_succ]
    cases tb
    · iterate 5
        refine seq_skip (wanted_no rfl rfl rfl rfl) ?_
        try simp only [Act.put, List.setIfInBounds_toArray, List.set_cons_zero, List.set_cons_succ]
      iterate 2
        refine seq_take (v := ?_) (wanted_un rfl) ?_ ?_
        rotate_left
        · go_simp
          try with_reducible rfl
        try simp only [Act.put, List.setIfInBounds_toArray, List.set_cons_zero, List.set_cons_succ]
      iterate 7
        refine seq_skip (wanted_no rfl rfl rfl rfl) ?_
        try simp only [Act.put, List.setIfInBounds_toArray, List.set_cons_zero, List.set_cons_succ]
      iterate 2
        refine seq_take (v := ?_) (wanted_un rfl) ?_ ?_
        rotate_left
        · go_simp
          try with_reducible rfl
        try simp only [Act.put, List.setIfInBounds_toArray, List.set_cons_zero, List.set_cons_succ]
      refine seq_done ?_
      go_wp2
      go_ret
      rw [HF.out]
      refine ⟨ret_bool ?_, ?_⟩
      · first | rfl | simp
      first | exact B2.out | exact below_drewN B2.out _ | exact below_drewN (below_drewN B2.out _) _ | exact below_drewN (below_drewN (below_drewN B2.out _) _) _
    iterate 4
      refine seq_take (v := ?_) (wanted_yes rfl rfl rfl rfl) ?_ ?_
      rotate_left
      · go_simp
        try with_reducible rfl
      try simp only [Act.put, List.setIfInBounds_toArray, List.set_cons_zero, List.set_cons_succ]
    refine seq_move (wanted_yes rfl rfl rfl rfl) (fun K hK => ?_)
    go_simp
    (with_reducible refine (EC.out _ (below_drewN (Below.refl _ _) _)).mono ?_)
    rintro e w3 ⟨rfl, q4, rfl⟩
    refine hK.out _ _ ?_
    clear hK K
    try simp only [Act.put, List.setIfInBounds_toArray, List.set_cons_zero, List.set_cons_succ]
    iterate 2
      refine seq_take (v := ?_) (wanted_un rfl) ?_ ?_
      rotate_left
      · go_simp
        try with_reducible rfl
      try simp only [Act.put, List.setIfInBounds_toArray, List.set_cons_zero, List.set_cons_succ]
    cases tC
    · iterate 7
        refine seq_skip (wanted_no rfl rfl rfl rfl) ?_
        try simp only [Act.put, List.setIfInBounds_toArray, List.set_cons_zero, List.set_cons_succ]
      iterate 2
        refine seq_take (v := ?_) (wanted_un rfl) ?_ ?_
        rotate_left
        · go_simp
          try with_reducible rfl
        try simp only [Act.put, List.setIfInBounds_toArray, List.set_cons_zero, List.set_cons_succ]
      refine seq_done ?_
      go_wp2
      go_ret
      rw [HF.out]
      refine ⟨ret_bool ?_, ?_⟩
      · first | rfl | simp
      first | exact B2.out | exact below_drewN B2.out _ | exact below_drewN (below_drewN B2.out _) _ | exact below_drewN (below_drewN (below_drewN B2.out _) _) _
    iterate 6
      refine seq_take (v := ?_) (wanted_yes rfl rfl rfl rfl) ?_ ?_
      rotate_left
      · go_simp
        try with_reducible rfl
      try simp only [Act.put, List.setIfInBounds_toArray, List.set_cons_zero, List.set_cons_succ]
    refine seq_move (wanted_yes rfl rfl rfl rfl) (fun K hK => ?_)
    go_simp
    (with_reducible refine (EK.out _ (below_drewN (Below.refl _ _) _)).mono ?_)
    rintro e w3 ⟨rfl, q5, rfl⟩
    refine hK.out _ _ ?_
    clear hK K
    try simp only [Act.put, List.setIfInBounds_toArray, List.set_cons_zero, List.set_cons_succ]
    iterate 2
      refine seq_take (v := ?_) (wanted_un rfl) ?_ ?_
      rotate_left
      · go_simp
        try with_reducible rfl
      try simp only [Act.put, List.setIfInBounds_toArray, List.set_cons_zero, List.set_cons_succ]
    refine seq_done ?_
    go_wp2
    go_ret
    rw [HF.out]
    refine ⟨ret_bool ?_, ?_⟩
    · first | rfl | simp
    first | exact B2.out | exact below_drewN B2.out _ | exact below_drewN (below_drewN B2.out _) _ | exact below_drewN (below_drewN (below_drewN B2.out _) _) _
end Go.Proofs.Ytmcioedmjcbfbaa
