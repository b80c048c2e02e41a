/- Walks of layer 27: two deeds compared; lists of deeds compared. Condition: slices as they may be. -/
import Derived.Test.YtmcioedmjcbfbaaScr21
import Derived.Test.YtmcioedmjcbfbaaKt
namespace Go.Proofs.Ytmcioedmjcbfbaa
open Go.RowKit IH
set_option maxRecDepth 100000
/-- Are two deeds the same? -/
def sameD (a b : Deed) : Bool := (a.kind == b.kind) && ((a.conn == b.conn) && ((a.n == b.n) && ((a.b == b.b) && ((a.torn == b.torn) && ((a.part == b.part) && ((a.calls == b.calls) && (a.keep == b.keep)))))))
theorem sameD_iff {a b : Deed} : sameD a b = true ↔ a = b := by
  obtain ⟨k, c, n, s, l, m, t, p⟩ := a
  obtain ⟨k', c', n', s', l', m', t', p'⟩ := b
  simp only [sameD, Bool.and_eq_true, beq_iff_eq, Deed.mk.injEq]
  exact ⟨fun ⟨h1, h2, h3, h4, h5, h6, h7, h8⟩ => ⟨h1, h2, h3, h4, h7, h8, h5, h6⟩, fun ⟨h1, h2, h3, h4, h7, h8, h5, h6⟩ => ⟨h1, h2, h3, h4, h5, h6, h7, h8⟩⟩
theorem sameD_refl (a : Deed) : sameD a a = true := sameD_iff.2 rfl
theorem take_ne {α : Type} [BEq α] [LawfulBEq α] {l m : List α} {k : Nat} {x y : α} (hx : l[k]? = some x) (hy : m[k]? = some y) (h : x ≠ y) : (l == m) = false := by
  rw [beq_eq_false_iff_ne]
  rintro rfl
  rw [hx] at hy
  exact h (Option.some.inj hy)
theorem take_snoc_eq {α : Type} {l m : List α} {k : Nat} {x : α} (hx : l[k]? = some x) (hy : m[k]? = some x) (h : l.take k = m.take k) : l.take (k + 1) = m.take (k + 1) := by
  rw [List.take_add_one, List.take_add_one, hx, hy, h]
theorem take_all_eq {α : Type} [BEq α] [LawfulBEq α] {l m : List α} {k : Nat} (hl : l.length = k) (hm : m.length = k) (h : l.take k = m.take k) : (l == m) = true := by
  rw [List.take_of_length_le (by omega), List.take_of_length_le (by omega)] at h
  rw [h, beq_self_eq_true]
theorem ne_len {α : Type} [BEq α] [LawfulBEq α] {l m : List α} (h : l.length ≠ m.length) : (l == m) = false := by
  rw [beq_eq_false_iff_ne]
  rintro rfl
  exact h rfl
set_option maxHeartbeats 16000000 in
theorem refSame27_any (a b : Deed) (AB AC AK DB DC DK : Option Addr) (nB cB nC cC nK cK mB eB mC eC mK eK : Nat) (w : World)
    (hB : SliceIn w w.heap.size 1 AB nB cB (bytesV a.b)) (hC : SliceIn w w.heap.size 1 AC nC cC (intsV a.calls)) (hK : SliceIn w w.heap.size 1 AK nK cK (boolsV a.keep))
    (gB : SliceIn w w.heap.size 1 DB mB eB (bytesV b.b)) (gC : SliceIn w w.heap.size 1 DC mC eC (intsV b.calls)) (gK : SliceIn w w.heap.size 1 DK mK eK (boolsV b.keep)) (h63 : nC ≤ 1000000000 ∧ nK ≤ 1000000000) :
    Calls Try.prog 39 #[.agg (cells8 a (.slice AB nB cB) (.slice AC nC cC) (.slice AK nK cK)).toArray, .agg (cells8 b (.slice DB mB eB) (.slice DC mC eC) (.slice DK mK eK)).toArray] w fun e w' => e = .returned (.bool (sameD a b)) ∧ Below w.heap.size w w' := by
  rw [c8, c8]
  obtain ⟨g0, hg0⟩ : ∃ g0, w.heap.size = g0 := ⟨_, rfl⟩
  rw [hg0]
  obtain ⟨w1, hw1⟩ : ∃ w1, w.alloc (.cells (cells8 a (.slice AB nB cB) (.slice AC nC cC) (.slice AK nK cK)).toArray 53) = w1 := ⟨_, rfl⟩
  obtain ⟨w2, hw2⟩ : ∃ w2, w1.alloc (.cells (cells8 b (.slice DB mB eB) (.slice DC mC eC) (.slice DK mK eK)).toArray 53) = w2 := ⟨_, rfl⟩
  have hz1 : w1.heap.size = g0 + 1 := by rw [← hw1]; simp [hg0]
  have B2 : Hid (Below g0 w w2) := Lib.hid (by rw [← hw2, ← hw1]; exact ((Below.refl _ _).alloc (by omega) _).alloc (by simp; omega) _)
  have R1 : RowAt w2 g0 53 (cells8 a (.slice AB nB cB) (.slice AC nC cC) (.slice AK nK cK)) := by rw [← hw2, ← hw1, ← hg0]; exact (RowAt.new w _ _).alloc _
  have R2 : RowAt w2 (g0 + 1) 53 (cells8 b (.slice DB mB eB) (.slice DC mC eC) (.slice DK mK eK)) := by rw [← hw2, ← hz1]; exact RowAt.new w1 _ _
  have lC : a.calls.length = nC := by have := hC.1; rw [intsV_length] at this; omega
  have lD : b.calls.length = mC := by have := gC.1; rw [intsV_length] at this; omega
  have lK : a.keep.length = nK := by have := hK.1; rw [boolsV_length] at this; omega
  have lL : b.keep.length = mK := by have := gK.1; rw [boolsV_length] at this; omega
  rw [hg0] at hB hC hK gB gC gK
  have q1 := run_string_of (P := Try.prog) (hB.below B2.out) 47 9 5 Try.underlying47 Try.underlying5 Try.underlying9
  have q2 := run_string_of (P := Try.prog) (gB.below B2.out) 47 9 5 Try.underlying47 Try.underlying5 Try.underlying9
  have HC := Lib.hid (hC.below B2.out)
  have HK := Lib.hid (hK.below B2.out)
  have GC := Lib.hid (gC.below B2.out)
  have GK := Lib.hid (gK.below B2.out)
  rw [c8] at hw1 hw2
  have hsb : ((⟨a.b.toArray⟩ : ByteArray).toList == (⟨b.b.toArray⟩ : ByteArray).toList) = (a.b == b.b) := by rw [ByteArray.toList_eq, ByteArray.toList_eq]
  have HS : Hid (sameD a b = ((a.kind == b.kind) && ((a.conn == b.conn) && ((a.n == b.n) && ((a.b == b.b) && ((a.torn == b.torn) && ((a.part == b.part) && ((a.calls == b.calls) && (a.keep == b.keep))))))))) := Lib.hid rfl
  have c0 := R1.cell (j := 0) rfl
  have d0 := R2.cell (j := 0) rfl
  have c1 := R1.cell (j := 1) rfl
  have d1 := R2.cell (j := 1) rfl
  have c2 := R1.cell (j := 2) rfl
  have d2 := R2.cell (j := 2) rfl
  have c3 := R1.cell (j := 3) rfl
  have d3 := R2.cell (j := 3) rfl
  have c4 := R1.cell (j := 4) rfl
  have d4 := R2.cell (j := 4) rfl
  have c5 := R1.cell (j := 5) rfl
  have d5 := R2.cell (j := 5) rfl
  have c6 := R1.cell (j := 6) rfl
  have d6 := R2.cell (j := 6) rfl
  have c7 := R1.cell (j := 7) rfl
  have d7 := R2.cell (j := 7) rfl
  generalize (⟨a.b.toArray⟩ : ByteArray) = Xa at *
  generalize (⟨b.b.toArray⟩ : ByteArray) = Xb at *
  have n_kind : (a.kind != b.kind) = !(a.kind == b.kind) := rfl
  have n_conn : (a.conn != b.conn) = !(a.conn == b.conn) := rfl
  have n_n : (a.n != b.n) = !(a.n == b.n) := rfl
  have n_torn : (a.torn != b.torn) = !(a.torn == b.torn) := rfl
  have n_part : (a.part != b.part) = !(a.part == b.part) := rfl
  have n_b : (Xa.toList != Xb.toList) = !(a.b == b.b) := by rw [← hsb]; rfl
  obtain ⟨tk, hk⟩ : ∃ t, (a.kind == b.kind) = t := ⟨_, rfl⟩
  obtain ⟨tc, hc⟩ : ∃ t, (a.conn == b.conn) = t := ⟨_, rfl⟩
  obtain ⟨tn, hn⟩ : ∃ t, (a.n == b.n) = t := ⟨_, rfl⟩
  obtain ⟨tb, hb⟩ : ∃ t, (a.b == b.b) = t := ⟨_, rfl⟩
  obtain ⟨tt, ht⟩ : ∃ t, (a.torn == b.torn) = t := ⟨_, rfl⟩
  obtain ⟨tp, hp⟩ : ∃ t, (a.part == b.part) = t := ⟨_, rfl⟩
  obtain ⟨tC, hCC⟩ : ∃ t, (a.calls == b.calls) = t := ⟨_, rfl⟩
  obtain ⟨tK, hKK⟩ : ∃ t, (a.keep == b.keep) = t := ⟨_, rfl⟩
  rw [hk, hc, hn, hb, ht, hp, hCC, hKK] at HS
  rw [hk] at n_kind
  rw [hc] at n_conn
  rw [hn] at n_n
  rw [hb] at n_b hsb
  rw [ht] at n_torn
  rw [hp] at n_part
  have HCC := Lib.hid hCC
  have HKK := Lib.hid hKK
  have LC := Lib.hid lC
  have LD := Lib.hid lD
  have LK := Lib.hid lK
  have LL := Lib.hid lL
  obtain ⟨xk, hxk⟩ : ∃ x, a.kind = x := ⟨_, rfl⟩
  obtain ⟨xc, hxc⟩ : ∃ x, a.conn = x := ⟨_, rfl⟩
  obtain ⟨xn, hxn⟩ : ∃ x, a.n = x := ⟨_, rfl⟩
  obtain ⟨xt, hxt⟩ : ∃ x, a.torn = x := ⟨_, rfl⟩
  obtain ⟨xp, hxp⟩ : ∃ x, a.part = x := ⟨_, rfl⟩
  obtain ⟨yk, hyk⟩ : ∃ x, b.kind = x := ⟨_, rfl⟩
  obtain ⟨yc, hyc⟩ : ∃ x, b.conn = x := ⟨_, rfl⟩
  obtain ⟨yn, hyn⟩ : ∃ x, b.n = x := ⟨_, rfl⟩
  obtain ⟨yt, hyt⟩ : ∃ x, b.torn = x := ⟨_, rfl⟩
  obtain ⟨yp, hyp⟩ : ∃ x, b.part = x := ⟨_, rfl⟩
  rw [hxk] at c0 hk n_kind hw1 ⊢
  rw [hxc] at c1 hc n_conn hw1 ⊢
  rw [hxn] at c2 hn n_n hw1 ⊢
  rw [hxt] at c6 ht n_torn hw1 ⊢
  rw [hxp] at c7 hp n_part hw1 ⊢
  rw [hyk] at d0 hk n_kind hw2 ⊢
  rw [hyc] at d1 hc n_conn hw2 ⊢
  rw [hyn] at d2 hn n_n hw2 ⊢
  rw [hyt] at d6 ht n_torn hw2 ⊢
  rw [hyp] at d7 hp n_part hw2 ⊢
  rw [HS.out]
  obtain ⟨tl, htl⟩ : ∃ t, ((nC : Int) == (mC : Int)) = t := ⟨_, rfl⟩
  obtain ⟨tm, htm⟩ : ∃ t, ((nK : Int) == (mK : Int)) = t := ⟨_, rfl⟩
  have n_l : ((nC : Int) != (mC : Int)) = !tl := by rw [← htl]; rfl
  have n_m : ((nK : Int) != (mK : Int)) = !tm := by rw [← htm]; rfl
  have HCl : Hid (tl = false → tC = false) := Lib.hid (fun h => by
    rw [← hCC]
    refine ne_len ?_
    rw [lC, lD]
    rw [h, beq_eq_false_iff_ne] at htl
    omega)
  have HKl : Hid (tm = false → tK = false) := Lib.hid (fun h => by
    rw [← hKK]
    refine ne_len ?_
    rw [lK, lL]
    rw [h, beq_eq_false_iff_ne] at htm
    omega)
  clear hCC hKK lC lD lK lL hxk hxc hxn hxt hxp hyk hyc hyn hyt hyp HS R1 R2 hB hC hK gB gC gK
  go_enter Try.func39, Try.ntmps39
  go_upto_region 1 with fail
  refine wp_region_seq ?_
  iterate 6
    refine seq_take (v := ?_) (wanted_un rfl) ?_ ?_
    rotate_left
    · go_simp
      try with_reducible rfl
    try simp only [Act.put, List.setIfInBounds_toArray, List.set_cons_zero, List.set_cons_succ]
  cases tk
  · iterate 5
      refine seq_skip (wanted_no rfl rfl rfl rfl) ?_
      try simp only [Act.put, List.setIfInBounds_toArray, List.set_cons_zero, List.set_cons_succ]
    iterate 2
      refine seq_take (v := ?_) (wanted_un rfl) ?_ ?_
      rotate_left
      · go_simp
        try with_reducible rfl
      try simp only [Act.put, List.setIfInBounds_toArray, List.set_cons_zero, List.set_cons_succ]
    iterate 5
      refine seq_skip (wanted_no rfl rfl rfl rfl) ?_
      try simp only [Act.put, List.setIfInBounds_toArray, List.set_cons_zero, List.set_cons_succ]
    iterate 2
      refine seq_take (v := ?_) (wanted_un rfl) ?_ ?_
      rotate_left
      · go_simp
        try with_reducible rfl
      try simp only [Act.put, List.setIfInBounds_toArray, List.set_cons_zero, List.set_cons_succ]
    iterate 7
      refine seq_skip (wanted_no rfl rfl rfl rfl) ?_
      try simp only [Act.put, List.setIfInBounds_toArray, List.set_cons_zero, List.set_cons_succ]
    iterate 2
      refine seq_take (v := ?_) (wanted_un rfl) ?_ ?_
      rotate_left
      · go_simp
        try with_reducible rfl
      try simp only [Act.put, List.setIfInBounds_toArray, List.set_cons_zero, List.set_cons_succ]
    iterate 7
      refine seq_skip (wanted_no rfl rfl rfl rfl) ?_
      try simp only [Act.put, List.setIfInBounds_toArray, List.set_cons_zero, List.set_cons_succ]
    iterate 2
      refine seq_take (v := ?_) (wanted_un rfl) ?_ ?_
      rotate_left
      · go_simp
        try with_reducible rfl
      try simp only [Act.put, List.setIfInBounds_toArray, List.set_cons_zero, List.set_cons_succ]
    iterate 7
      refine seq_skip (wanted_no rfl rfl rfl rfl) ?_
      try simp only [Act.put, List.setIfInBounds_toArray, List.set_cons_zero, List.set_cons_succ]
    iterate 2
      refine seq_take (v := ?_) (wanted_un rfl) ?_ ?_
      rotate_left
      · go_simp
        try with_reducible rfl
      try simp only [Act.put, List.setIfInBounds_toArray, List.set_cons_zero, List.set_cons_succ]
    iterate 7
      refine seq_skip (wanted_no rfl rfl rfl rfl) ?_
      try simp only [Act.put, List.setIfInBounds_toArray, List.set_cons_zero, List.set_cons_succ]
    iterate 2
      refine seq_take (v := ?_) (wanted_un rfl) ?_ ?_
      rotate_left
      · go_simp
        try with_reducible rfl
      try simp only [Act.put, List.setIfInBounds_toArray, List.set_cons_zero, List.set_cons_succ]
    iterate 9
      refine seq_skip (wanted_no rfl rfl rfl rfl) ?_
      try simp only [Act.put, List.setIfInBounds_toArray, List.set_cons_zero, List.set_cons_succ]
    cases tm
    · iterate 1
        refine seq_take (v := ?_) (wanted_un rfl) ?_ ?_
        rotate_left
        · go_simp
          try with_reducible rfl
        try simp only [Act.put, List.setIfInBounds_toArray, List.set_cons_zero, List.set_cons_succ]
      refine seq_done ?_
      go_wp2
      go_ret
      first | (have e1 := HCl.out trivial; subst e1; refine ⟨ret_bool ?_, B2.out⟩; simp; done) | (have e1 := HKl.out trivial; subst e1; refine ⟨ret_bool ?_, B2.out⟩; simp; done) | (refine ⟨ret_bool ?_, B2.out⟩; simp; done)
    iterate 1
      refine seq_take (v := ?_) (wanted_un rfl) ?_ ?_
      rotate_left
      · go_simp
        try with_reducible rfl
      try simp only [Act.put, List.setIfInBounds_toArray, List.set_cons_zero, List.set_cons_succ]
    refine seq_done ?_
    go_wp2
    go_ret
    first | (have e1 := HCl.out trivial; subst e1; refine ⟨ret_bool ?_, B2.out⟩; simp; done) | (have e1 := HKl.out trivial; subst e1; refine ⟨ret_bool ?_, B2.out⟩; simp; done) | (refine ⟨ret_bool ?_, B2.out⟩; simp; done)
  iterate 5
    refine seq_take (v := ?_) (wanted_yes rfl rfl rfl rfl) ?_ ?_
    rotate_left
    · go_simp
      try with_reducible rfl
    try simp only [Act.put, List.setIfInBounds_toArray, List.set_cons_zero, List.set_cons_succ]
  iterate 2
    refine seq_take (v := ?_) (wanted_un rfl) ?_ ?_
    rotate_left
    · go_simp
      try with_reducible rfl
    try simp only [Act.put, List.setIfInBounds_toArray, List.set_cons_zero, List.set_cons_succ]
  cases tc
  · iterate 5
      refine seq_skip (wanted_no rfl rfl rfl rfl) ?_
      try simp only [Act.put, List.setIfInBounds_toArray, List.set_cons_zero, List.set_cons_succ]
    iterate 2
      refine seq_take (v := ?_) (wanted_un rfl) ?_ ?_
      rotate_left
      · go_simp
        try with_reducible rfl
      try simp only [Act.put, List.setIfInBounds_toArray, List.set_cons_zero, List.set_cons_succ]
    iterate 7
      refine seq_skip (wanted_no rfl rfl rfl rfl) ?_
      try simp only [Act.put, List.setIfInBounds_toArray, List.set_cons_zero, List.set_cons_succ]
    iterate 2
      refine seq_take (v := ?_) (wanted_un rfl) ?_ ?_
      rotate_left
      · go_simp
        try with_reducible rfl
      try simp only [Act.put, List.setIfInBounds_toArray, List.set_cons_zero, List.set_cons_succ]
    iterate 7
      refine seq_skip (wanted_no rfl rfl rfl rfl) ?_
      try simp only [Act.put, List.setIfInBounds_toArray, List.set_cons_zero, List.set_cons_succ]
    iterate 2
      refine seq_take (v := ?_) (wanted_un rfl) ?_ ?_
      rotate_left
      · go_simp
        try with_reducible rfl
      try simp only [Act.put, List.setIfInBounds_toArray, List.set_cons_zero, List.set_cons_succ]
    iterate 7
      refine seq_skip (wanted_no rfl rfl rfl rfl) ?_
      try simp only [Act.put, List.setIfInBounds_toArray, List.set_cons_zero, List.set_cons_succ]
    iterate 2
      refine seq_take (v := ?_) (wanted_un rfl) ?_ ?_
      rotate_left
      · go_simp
        try with_reducible rfl
      try simp only [Act.put, List.setIfInBounds_toArray, List.set_cons_zero, List.set_cons_succ]
    iterate 7
      refine seq_skip (wanted_no rfl rfl rfl rfl) ?_
      try simp only [Act.put, List.setIfInBounds_toArray, List.set_cons_zero, List.set_cons_succ]
    iterate 2
      refine seq_take (v := ?_) (wanted_un rfl) ?_ ?_
      rotate_left
      · go_simp
        try with_reducible rfl
      try simp only [Act.put, List.setIfInBounds_toArray, List.set_cons_zero, List.set_cons_succ]
    iterate 9
      refine seq_skip (wanted_no rfl rfl rfl rfl) ?_
      try simp only [Act.put, List.setIfInBounds_toArray, List.set_cons_zero, List.set_cons_succ]
    cases tm
    · iterate 1
        refine seq_take (v := ?_) (wanted_un rfl) ?_ ?_
        rotate_left
        · go_simp
          try with_reducible rfl
        try simp only [Act.put, List.setIfInBounds_toArray, List.set_cons_zero, List.set_cons_succ]
      refine seq_done ?_
      go_wp2
      go_ret
      first | (have e1 := HCl.out trivial; subst e1; refine ⟨ret_bool ?_, B2.out⟩; simp; done) | (have e1 := HKl.out trivial; subst e1; refine ⟨ret_bool ?_, B2.out⟩; simp; done) | (refine ⟨ret_bool ?_, B2.out⟩; simp; done)
    iterate 1
      refine seq_take (v := ?_) (wanted_un rfl) ?_ ?_
      rotate_left
      · go_simp
        try with_reducible rfl
      try simp only [Act.put, List.setIfInBounds_toArray, List.set_cons_zero, List.set_cons_succ]
    refine seq_done ?_
    go_wp2
    go_ret
    first | (have e1 := HCl.out trivial; subst e1; refine ⟨ret_bool ?_, B2.out⟩; simp; done) | (have e1 := HKl.out trivial; subst e1; refine ⟨ret_bool ?_, B2.out⟩; simp; done) | (refine ⟨ret_bool ?_, B2.out⟩; simp; done)
  iterate 5
    refine seq_take (v := ?_) (wanted_yes rfl rfl rfl rfl) ?_ ?_
    rotate_left
    · go_simp
      try with_reducible rfl
    try simp only [Act.put, List.setIfInBounds_toArray, List.set_cons_zero, List.set_cons_succ]
  iterate 2
    refine seq_take (v := ?_) (wanted_un rfl) ?_ ?_
    rotate_left
    · go_simp
      try with_reducible rfl
    try simp only [Act.put, List.setIfInBounds_toArray, List.set_cons_zero, List.set_cons_succ]
  cases tn
  · iterate 7
      refine seq_skip (wanted_no rfl rfl rfl rfl) ?_
      try simp only [Act.put, List.setIfInBounds_toArray, List.set_cons_zero, List.set_cons_succ]
    iterate 2
      refine seq_take (v := ?_) (wanted_un rfl) ?_ ?_
      rotate_left
      · go_simp
        try with_reducible rfl
      try simp only [Act.put, List.setIfInBounds_toArray, List.set_cons_zero, List.set_cons_succ]
    iterate 7
      refine seq_skip (wanted_no rfl rfl rfl rfl) ?_
      try simp only [Act.put, List.setIfInBounds_toArray, List.set_cons_zero, List.set_cons_succ]
    iterate 2
      refine seq_take (v := ?_) (wanted_un rfl) ?_ ?_
      rotate_left
      · go_simp
        try with_reducible rfl
      try simp only [Act.put, List.setIfInBounds_toArray, List.set_cons_zero, List.set_cons_succ]
    iterate 7
      refine seq_skip (wanted_no rfl rfl rfl rfl) ?_
      try simp only [Act.put, List.setIfInBounds_toArray, List.set_cons_zero, List.set_cons_succ]
    iterate 2
      refine seq_take (v := ?_) (wanted_un rfl) ?_ ?_
      rotate_left
      · go_simp
        try with_reducible rfl
      try simp only [Act.put, List.setIfInBounds_toArray, List.set_cons_zero, List.set_cons_succ]
    iterate 7
      refine seq_skip (wanted_no rfl rfl rfl rfl) ?_
      try simp only [Act.put, List.setIfInBounds_toArray, List.set_cons_zero, List.set_cons_succ]
    iterate 2
      refine seq_take (v := ?_) (wanted_un rfl) ?_ ?_
      rotate_left
      · go_simp
        try with_reducible rfl
      try simp only [Act.put, List.setIfInBounds_toArray, List.set_cons_zero, List.set_cons_succ]
    iterate 9
      refine seq_skip (wanted_no rfl rfl rfl rfl) ?_
      try simp only [Act.put, List.setIfInBounds_toArray, List.set_cons_zero, List.set_cons_succ]
    cases tm
    · iterate 1
        refine seq_take (v := ?_) (wanted_un rfl) ?_ ?_
        rotate_left
        · go_simp
          try with_reducible rfl
        try simp only [Act.put, List.setIfInBounds_toArray, List.set_cons_zero, List.set_cons_succ]
      refine seq_done ?_
      go_wp2
      go_ret
      first | (have e1 := HCl.out trivial; subst e1; refine ⟨ret_bool ?_, B2.out⟩; simp; done) | (have e1 := HKl.out trivial; subst e1; refine ⟨ret_bool ?_, B2.out⟩; simp; done) | (refine ⟨ret_bool ?_, B2.out⟩; simp; done)
    iterate 1
      refine seq_take (v := ?_) (wanted_un rfl) ?_ ?_
      rotate_left
      · go_simp
        try with_reducible rfl
      try simp only [Act.put, List.setIfInBounds_toArray, List.set_cons_zero, List.set_cons_succ]
    refine seq_done ?_
    go_wp2
    go_ret
    first | (have e1 := HCl.out trivial; subst e1; refine ⟨ret_bool ?_, B2.out⟩; simp; done) | (have e1 := HKl.out trivial; subst e1; refine ⟨ret_bool ?_, B2.out⟩; simp; done) | (refine ⟨ret_bool ?_, B2.out⟩; simp; done)
  iterate 7
    refine seq_take (v := ?_) (wanted_yes rfl rfl rfl rfl) ?_ ?_
    rotate_left
    · go_simp
      try with_reducible rfl
    try simp only [Act.put, List.setIfInBounds_toArray, List.set_cons_zero, List.set_cons_succ]
  iterate 2
    refine seq_take (v := ?_) (wanted_un rfl) ?_ ?_
    rotate_left
    · go_simp
      try with_reducible rfl
    try simp only [Act.put, List.setIfInBounds_toArray, List.set_cons_zero, List.set_cons_succ]
  cases tb
  · iterate 7
      refine seq_skip (wanted_no rfl rfl rfl rfl) ?_
      try simp only [Act.put, List.setIfInBounds_toArray, List.set_cons_zero, List.set_cons_succ]
    iterate 2
      refine seq_take (v := ?_) (wanted_un rfl) ?_ ?_
      rotate_left
      · go_simp
        try with_reducible rfl
      try simp only [Act.put, List.setIfInBounds_toArray, List.set_cons_zero, List.set_cons_succ]
    iterate 7
      refine seq_skip (wanted_no rfl rfl rfl rfl) ?_
      try simp only [Act.put, List.setIfInBounds_toArray, List.set_cons_zero, List.set_cons_succ]
    iterate 2
      refine seq_take (v := ?_) (wanted_un rfl) ?_ ?_
      rotate_left
      · go_simp
        try with_reducible rfl
      try simp only [Act.put, List.setIfInBounds_toArray, List.set_cons_zero, List.set_cons_succ]
    iterate 7
      refine seq_skip (wanted_no rfl rfl rfl rfl) ?_
      try simp only [Act.put, List.setIfInBounds_toArray, List.set_cons_zero, List.set_cons_succ]
    iterate 2
      refine seq_take (v := ?_) (wanted_un rfl) ?_ ?_
      rotate_left
      · go_simp
        try with_reducible rfl
      try simp only [Act.put, List.setIfInBounds_toArray, List.set_cons_zero, List.set_cons_succ]
    iterate 9
      refine seq_skip (wanted_no rfl rfl rfl rfl) ?_
      try simp only [Act.put, List.setIfInBounds_toArray, List.set_cons_zero, List.set_cons_succ]
    cases tm
    · iterate 1
        refine seq_take (v := ?_) (wanted_un rfl) ?_ ?_
        rotate_left
        · go_simp
          try with_reducible rfl
        try simp only [Act.put, List.setIfInBounds_toArray, List.set_cons_zero, List.set_cons_succ]
      refine seq_done ?_
      go_wp2
      go_ret
      first | (have e1 := HCl.out trivial; subst e1; refine ⟨ret_bool ?_, B2.out⟩; simp; done) | (have e1 := HKl.out trivial; subst e1; refine ⟨ret_bool ?_, B2.out⟩; simp; done) | (refine ⟨ret_bool ?_, B2.out⟩; simp; done)
    iterate 1
      refine seq_take (v := ?_) (wanted_un rfl) ?_ ?_
      rotate_left
      · go_simp
        try with_reducible rfl
      try simp only [Act.put, List.setIfInBounds_toArray, List.set_cons_zero, List.set_cons_succ]
    refine seq_done ?_
    go_wp2
    go_ret
    first | (have e1 := HCl.out trivial; subst e1; refine ⟨ret_bool ?_, B2.out⟩; simp; done) | (have e1 := HKl.out trivial; subst e1; refine ⟨ret_bool ?_, B2.out⟩; simp; done) | (refine ⟨ret_bool ?_, B2.out⟩; simp; done)
  iterate 7
    refine seq_take (v := ?_) (wanted_yes rfl rfl rfl rfl) ?_ ?_
    rotate_left
    · go_simp
      try with_reducible rfl
    try simp only [Act.put, List.setIfInBounds_toArray, List.set_cons_zero, List.set_cons_succ]
  iterate 2
    refine seq_take (v := ?_) (wanted_un rfl) ?_ ?_
    rotate_left
    · go_simp
      try with_reducible rfl
    try simp only [Act.put, List.setIfInBounds_toArray, List.set_cons_zero, List.set_cons_succ]
  cases tt
  · iterate 7
      refine seq_skip (wanted_no rfl rfl rfl rfl) ?_
      try simp only [Act.put, List.setIfInBounds_toArray, List.set_cons_zero, List.set_cons_succ]
    iterate 2
      refine seq_take (v := ?_) (wanted_un rfl) ?_ ?_
      rotate_left
      · go_simp
        try with_reducible rfl
      try simp only [Act.put, List.setIfInBounds_toArray, List.set_cons_zero, List.set_cons_succ]
    iterate 7
      refine seq_skip (wanted_no rfl rfl rfl rfl) ?_
      try simp only [Act.put, List.setIfInBounds_toArray, List.set_cons_zero, List.set_cons_succ]
    iterate 2
      refine seq_take (v := ?_) (wanted_un rfl) ?_ ?_
      rotate_left
      · go_simp
        try with_reducible rfl
      try simp only [Act.put, List.setIfInBounds_toArray, List.set_cons_zero, List.set_cons_succ]
    iterate 9
      refine seq_skip (wanted_no rfl rfl rfl rfl) ?_
      try simp only [Act.put, List.setIfInBounds_toArray, List.set_cons_zero, List.set_cons_succ]
    cases tm
    · iterate 1
        refine seq_take (v := ?_) (wanted_un rfl) ?_ ?_
        rotate_left
        · go_simp
          try with_reducible rfl
        try simp only [Act.put, List.setIfInBounds_toArray, List.set_cons_zero, List.set_cons_succ]
      refine seq_done ?_
      go_wp2
      go_ret
      first | (have e1 := HCl.out trivial; subst e1; refine ⟨ret_bool ?_, B2.out⟩; simp; done) | (have e1 := HKl.out trivial; subst e1; refine ⟨ret_bool ?_, B2.out⟩; simp; done) | (refine ⟨ret_bool ?_, B2.out⟩; simp; done)
    iterate 1
      refine seq_take (v := ?_) (wanted_un rfl) ?_ ?_
      rotate_left
      · go_simp
        try with_reducible rfl
      try simp only [Act.put, List.setIfInBounds_toArray, List.set_cons_zero, List.set_cons_succ]
    refine seq_done ?_
    go_wp2
    go_ret
    first | (have e1 := HCl.out trivial; subst e1; refine ⟨ret_bool ?_, B2.out⟩; simp; done) | (have e1 := HKl.out trivial; subst e1; refine ⟨ret_bool ?_, B2.out⟩; simp; done) | (refine ⟨ret_bool ?_, B2.out⟩; simp; done)
  iterate 7
    refine seq_take (v := ?_) (wanted_yes rfl rfl rfl rfl) ?_ ?_
    rotate_left
    · go_simp
      try with_reducible rfl
    try simp only [Act.put, List.setIfInBounds_toArray, List.set_cons_zero, List.set_cons_succ]
  iterate 2
    refine seq_take (v := ?_) (wanted_un rfl) ?_ ?_
    rotate_left
    · go_simp
      try with_reducible rfl
    try simp only [Act.put, List.setIfInBounds_toArray, List.set_cons_zero, List.set_cons_succ]
  cases tp
  · iterate 7
      refine seq_skip (wanted_no rfl rfl rfl rfl) ?_
      try simp only [Act.put, List.setIfInBounds_toArray, List.set_cons_zero, List.set_cons_succ]
    iterate 2
      refine seq_take (v := ?_) (wanted_un rfl) ?_ ?_
      rotate_left
      · go_simp
        try with_reducible rfl
      try simp only [Act.put, List.setIfInBounds_toArray, List.set_cons_zero, List.set_cons_succ]
    iterate 9
      refine seq_skip (wanted_no rfl rfl rfl rfl) ?_
      try simp only [Act.put, List.setIfInBounds_toArray, List.set_cons_zero, List.set_cons_succ]
    cases tm
    · iterate 1
        refine seq_take (v := ?_) (wanted_un rfl) ?_ ?_
        rotate_left
        · go_simp
          try with_reducible rfl
        try simp only [Act.put, List.setIfInBounds_toArray, List.set_cons_zero, List.set_cons_succ]
      refine seq_done ?_
      go_wp2
      go_ret
      first | (have e1 := HCl.out trivial; subst e1; refine ⟨ret_bool ?_, B2.out⟩; simp; done) | (have e1 := HKl.out trivial; subst e1; refine ⟨ret_bool ?_, B2.out⟩; simp; done) | (refine ⟨ret_bool ?_, B2.out⟩; simp; done)
    iterate 1
      refine seq_take (v := ?_) (wanted_un rfl) ?_ ?_
      rotate_left
      · go_simp
        try with_reducible rfl
      try simp only [Act.put, List.setIfInBounds_toArray, List.set_cons_zero, List.set_cons_succ]
    refine seq_done ?_
    go_wp2
    go_ret
    first | (have e1 := HCl.out trivial; subst e1; refine ⟨ret_bool ?_, B2.out⟩; simp; done) | (have e1 := HKl.out trivial; subst e1; refine ⟨ret_bool ?_, B2.out⟩; simp; done) | (refine ⟨ret_bool ?_, B2.out⟩; simp; done)
  iterate 7
    refine seq_take (v := ?_) (wanted_yes rfl rfl rfl rfl) ?_ ?_
    rotate_left
    · go_simp
      try with_reducible rfl
    try simp only [Act.put, List.setIfInBounds_toArray, List.set_cons_zero, List.set_cons_succ]
  iterate 2
    refine seq_take (v := ?_) (wanted_un rfl) ?_ ?_
    rotate_left
    · go_simp
      try with_reducible rfl
    try simp only [Act.put, List.setIfInBounds_toArray, List.set_cons_zero, List.set_cons_succ]
  cases tl
  · iterate 9
      refine seq_skip (wanted_no rfl rfl rfl rfl) ?_
      try simp only [Act.put, List.setIfInBounds_toArray, List.set_cons_zero, List.set_cons_succ]
    cases tm
    · iterate 1
        refine seq_take (v := ?_) (wanted_un rfl) ?_ ?_
        rotate_left
        · go_simp
          try with_reducible rfl
        try simp only [Act.put, List.setIfInBounds_toArray, List.set_cons_zero, List.set_cons_succ]
      refine seq_done ?_
      go_wp2
      go_ret
      first | (have e1 := HCl.out trivial; subst e1; refine ⟨ret_bool ?_, B2.out⟩; simp; done) | (have e1 := HKl.out trivial; subst e1; refine ⟨ret_bool ?_, B2.out⟩; simp; done) | (refine ⟨ret_bool ?_, B2.out⟩; simp; done)
    iterate 1
      refine seq_take (v := ?_) (wanted_un rfl) ?_ ?_
      rotate_left
      · go_simp
        try with_reducible rfl
      try simp only [Act.put, List.setIfInBounds_toArray, List.set_cons_zero, List.set_cons_succ]
    refine seq_done ?_
    go_wp2
    go_ret
    first | (have e1 := HCl.out trivial; subst e1; refine ⟨ret_bool ?_, B2.out⟩; simp; done) | (have e1 := HKl.out trivial; subst e1; refine ⟨ret_bool ?_, B2.out⟩; simp; done) | (refine ⟨ret_bool ?_, B2.out⟩; simp; done)
  iterate 9
    refine seq_take (v := ?_) (wanted_yes rfl rfl rfl rfl) ?_ ?_
    rotate_left
    · go_simp
      try with_reducible rfl
    try simp only [Act.put, List.setIfInBounds_toArray, List.set_cons_zero, List.set_cons_succ]
  cases tm
  · iterate 1
      refine seq_take (v := ?_) (wanted_un rfl) ?_ ?_
      rotate_left
      · go_simp
        try with_reducible rfl
      try simp only [Act.put, List.setIfInBounds_toArray, List.set_cons_zero, List.set_cons_succ]
    refine seq_done ?_
    go_wp2
    go_ret
    first | (have e1 := HCl.out trivial; subst e1; refine ⟨ret_bool ?_, B2.out⟩; simp; done) | (have e1 := HKl.out trivial; subst e1; refine ⟨ret_bool ?_, B2.out⟩; simp; done) | (refine ⟨ret_bool ?_, B2.out⟩; simp; done)
  iterate 1
    refine seq_take (v := ?_) (wanted_un rfl) ?_ ?_
    rotate_left
    · go_simp
      try with_reducible rfl
    try simp only [Act.put, List.setIfInBounds_toArray, List.set_cons_zero, List.set_cons_succ]
  refine seq_done ?_
  have hnm : mC = nC := by have := eq_of_beq htl; omega
  subst hnm
  have hnk : mK = nK := by have := eq_of_beq htm; omega
  subst hnk
  go_wp2
  have c4' := Lib.hid c4
  have c5' := Lib.hid c5
  have d4' := Lib.hid d4
  have d5' := Lib.hid d5
  clear c0 c1 c2 c3 c6 c7 d0 d1 d2 d3 d6 d7 hk hc hn hb ht hp n_kind n_conn n_n n_b n_torn n_part hsb q1 q2 hw1 hw2 htl htm n_l n_m
  go_loopw [5] (fun i wr => ∃ k q : Nat, k ≤ mC ∧ i = .int .i64 k ∧ a.calls.take k = b.calls.take k ∧ wr = w2.drewN q) (fun i _ => mC - (intOf i).toNat)
  case atStart => exact ⟨0, 0, by omega, rfl, rfl, rfl⟩
  case round =>
    obtain ⟨k, q, hk, rfl, ht, rfl⟩ := hrel
    have HT := Lib.hid ht
    clear ht
    by_cases hlt : k < mC
    · obtain ⟨x, hx⟩ : ∃ x, a.calls[k]? = some x := ⟨_, List.getElem?_eq_getElem (by rw [LC.out]; exact hlt)⟩
      obtain ⟨y, hy⟩ : ∃ y, b.calls[k]? = some y := ⟨_, List.getElem?_eq_getElem (by rw [LD.out]; exact hlt)⟩
      obtain ⟨b1, o1, rfl, _, hc1⟩ := HC.out.2.2.2 (by omega)
      obtain ⟨b2, o2, rfl, _, hc2⟩ := GC.out.2.2.2 (by omega)
      have v1 := hc1 k (.int .i64 x) (by simp [intsV, hx])
      have v2 := hc2 k (.int .i64 y) (by simp [intsV, hy])
      have ltI : (k : Int) < (mC : Int) := by omega
      clear hc1 hc2
      by_cases hxy : x = y
      · subst hxy
        have HN := Lib.hid (take_snoc_eq hx hy HT.out)
        have e1 : (x == x) = true := beq_self_eq_true x
        have e2 : (x != x) = false := by simp
        clear hx hy
        go_wp2
        go_quiet (fail)
        go_wp2
        go_roundw
        case rel => exact ⟨k + 1, _, by omega, by go_num, HN.out, rfl⟩
        case measure => simp [intOf]; omega
      · have e0 := take_ne hx hy hxy
        rw [HCC.out] at e0
        subst e0
        have e1 : (x == y) = false := beq_eq_false_iff_ne.2 hxy
        have e2 : (x != y) = true := by simp [hxy]
        clear hx hy hxy
        go_wp2
        go_quiet (fail)
        go_wp2
        go_ret
        exact ⟨ret_bool (by simp), below_drewN (below_drewN B2.out _) _⟩
    · obtain rfl : mC = k := by omega
      have e0 := take_all_eq LC.out LD.out HT.out
      rw [HCC.out] at e0
      subst e0
      clear hlt
      go_wp2
      go_loopw [6] (fun i wr => ∃ k q : Nat, k ≤ mK ∧ i = .int .i64 k ∧ a.keep.take k = b.keep.take k ∧ wr = w2.drewN q) (fun i _ => mK - (intOf i).toNat)
      case atStart => exact ⟨0, q, by omega, rfl, rfl, rfl⟩
      case round =>
        obtain ⟨k, q, hk, rfl, ht, rfl⟩ := hrel
        have HT := Lib.hid ht
        clear ht
        by_cases hlt : k < mK
        · obtain ⟨x, hx⟩ : ∃ x, a.keep[k]? = some x := ⟨_, List.getElem?_eq_getElem (by rw [LK.out]; exact hlt)⟩
          obtain ⟨y, hy⟩ : ∃ y, b.keep[k]? = some y := ⟨_, List.getElem?_eq_getElem (by rw [LL.out]; exact hlt)⟩
          obtain ⟨b1, o1, rfl, _, hc1⟩ := HK.out.2.2.2 (by omega)
          obtain ⟨b2, o2, rfl, _, hc2⟩ := GK.out.2.2.2 (by omega)
          have v1 := hc1 k (.bool x) (by simp [boolsV, hx])
          have v2 := hc2 k (.bool y) (by simp [boolsV, hy])
          have ltI : (k : Int) < (mK : Int) := by omega
          clear hc1 hc2
          by_cases hxy : x = y
          · subst hxy
            have HN := Lib.hid (take_snoc_eq hx hy HT.out)
            clear hx hy
            cases x
            · go_wp2
              go_quiet (fail)
              go_wp2
              go_roundw
              case rel => exact ⟨k + 1, _, by omega, by go_num, HN.out, rfl⟩
              case measure => simp [intOf]; omega
            · go_wp2
              go_quiet (fail)
              go_wp2
              go_roundw
              case rel => exact ⟨k + 1, _, by omega, by go_num, HN.out, rfl⟩
              case measure => simp [intOf]; omega
          · have e0 := take_ne hx hy hxy
            rw [HKK.out] at e0
            subst e0
            clear hx hy
            cases x <;> cases y
            · exact absurd rfl hxy
            · go_wp2
              go_quiet (fail)
              go_wp2
              go_ret
              exact ⟨ret_bool (by simp), below_drewN (below_drewN B2.out _) _⟩
            · go_wp2
              go_quiet (fail)
              go_wp2
              go_ret
              exact ⟨ret_bool (by simp), below_drewN (below_drewN B2.out _) _⟩
            · exact absurd rfl hxy
        · obtain rfl : mK = k := by omega
          have e0 := take_all_eq LK.out LL.out HT.out
          rw [HKK.out] at e0
          subst e0
          clear hlt
          go_wp2
          go_ret
          exact ⟨ret_bool (by simp), below_drewN B2.out _⟩
end Go.Proofs.Ytmcioedmjcbfbaa
