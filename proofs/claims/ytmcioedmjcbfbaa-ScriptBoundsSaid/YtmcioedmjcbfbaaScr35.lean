/- Walk of layer 27: is a deed right, by the document. Condition: slices as they may be, numbers and lengths within bounds. -/
import Derived.Test.YtmcioedmjcbfbaaScr33
import Derived.Test.YtmcioedmjcbfbaaScr21
namespace Go.Proofs.Ytmcioedmjcbfbaa
open Go.RowKit IH
set_option maxRecDepth 100000
/-- The old blocks read as before. -/
def Same3 (g0 : Nat) (w W : World) : Prop := w.heap.size ≤ W.heap.size ∧ ∀ p : Addr, p.block < g0 → W.cell? p = w.cell? p
theorem Same3.refl (g0 : Nat) (w : World) : Same3 g0 w w := ⟨Nat.le_refl _, fun _ _ => rfl⟩
theorem Same3.set {g0 g : Nat} {w W : World} (h : Same3 g0 w W) (hg : g0 ≤ g) (i : Nat) (v : Value) : Same3 g0 w (W.setCell ⟨g, i, none⟩ v) :=
  ⟨by have := h.1; simpa using this, fun p hp => (World.cell?_setCell_other W ⟨g, i, none⟩ p v (fun e => by subst e; simp at hp; omega)).trans (h.2 p hp)⟩
set_option maxHeartbeats 4000000 in
theorem refRight27_k0 (d : Deed) (AB AC AK : Option Addr) (nB cB nC cC nK cK : Nat) (w : World) (hk : d.kind = 0)
    (hB : SliceIn w w.heap.size 1 AB nB cB (bytesV d.b)) (hC : SliceIn w w.heap.size 1 AC nC cC (intsV d.calls)) (hK : SliceIn w w.heap.size 1 AK nK cK (boolsV d.keep)) (hd : DeedN d) :
    Calls Try.prog 27 #[.agg (cells8 d (.slice AB nB cB) (.slice AC nC cC) (.slice AK nK cK)).toArray] w fun e w' => e = .returned (.bool (rightD d)) ∧ Below w.heap.size w w' := by
  rw [c8]
  obtain ⟨g0, hg0⟩ : ∃ g0, w.heap.size = g0 := ⟨_, rfl⟩
  obtain ⟨wa, hwa⟩ : ∃ wa, w.alloc (.cells (cells8 d (.slice AB nB cB) (.slice AC nC cC) (.slice AK nK cK)).toArray 53) = wa := ⟨_, rfl⟩
  obtain ⟨wb, hwb⟩ : ∃ wb, wa.alloc (.cells (cells8 (Deed.of 0) (.slice none 0 0) (.slice none 0 0) (.slice none 0 0)).toArray 53) = wb := ⟨_, rfl⟩
  rw [hg0]
  rw [hg0] at hB hC hK
  have hza : wa.heap.size = g0 + 1 := by rw [← hwa]; simp [hg0]
  have hzb : wb.heap.size = g0 + 2 := by rw [← hwb]; simp [hza]
  have BB : Hid (Below g0 w wb) := Lib.hid (by rw [← hwb, ← hwa]; exact ((Below.refl _ _).alloc (by omega) _).alloc (by simp; omega) _)
  have R1 : RowAt wb g0 53 (cells8 d (.slice AB nB cB) (.slice AC nC cC) (.slice AK nK cK)) := by rw [← hwb, ← hwa, ← hg0]; exact (RowAt.new w _ _).alloc _
  have R2 : RowAt wb (g0 + 1) 53 (cells8 (Deed.of 0) (.slice none 0 0) (.slice none 0 0) (.slice none 0 0)) := by rw [← hwb, ← hza]; exact RowAt.new wa _ _
  have HB := Lib.hid ((hB.below BB.out).more (show g0 ≤ wb.heap.size by omega))
  have HC := Lib.hid ((hC.below BB.out).more (show g0 ≤ wb.heap.size by omega))
  have HK := Lib.hid ((hK.below BB.out).more (show g0 ≤ wb.heap.size by omega))
  have lB : d.b.length = nB := by have := hB.1; rw [bytesV_length] at this; omega
  have lC : d.calls.length = nC := by have := hC.1; rw [intsV_length] at this; omega
  have lK : d.keep.length = nK := by have := hK.1; rw [boolsV_length] at this; omega
  have hnC : nC ≤ 1000000000 := by have := hd.lc; omega
  have hnK : nK ≤ 1000000000 := by have := hd.lk; omega
  have hcl : clean d = Deed.of 0 := by simp [clean, hk]
  have hrd : rightD d = sameD d (clean d) := by unfold rightD; rw [decide_eq_true (by omega : 0 ≤ d.kind ∧ d.kind ≤ 10)]; rfl
  have SM : Hid (∀ W, Same3 g0 wb W → Calls Try.prog 39 #[.agg #[.int .i64 0, .int .i64 d.conn, .int .i64 d.n, .slice AB nB cB, .slice AC nC cC, .slice AK nK cK, .int .i64 d.torn, .int .i64 d.part], .agg #[.int .i64 0, .int .i64 0, .int .i64 0, .slice none 0 0, .slice none 0 0, .slice none 0 0, .int .i64 0, .int .i64 0]] W fun e w' => e = .returned (.bool (sameD d (clean d))) ∧ Below W.heap.size W w') := Lib.hid (fun W hW => by
    have HBx : SliceIn W W.heap.size 1 AB nB cB (bytesV d.b) := ((hB.below BB.out).keep fun p hp => hW.2 p hp).more (by have := hW.1; omega)
    have HCx : SliceIn W W.heap.size 1 AC nC cC (intsV d.calls) := ((hC.below BB.out).keep fun p hp => hW.2 p hp).more (by have := hW.1; omega)
    have HKx : SliceIn W W.heap.size 1 AK nK cK (boolsV d.keep) := ((hK.below BB.out).keep fun p hp => hW.2 p hp).more (by have := hW.1; omega)
    have h := refSame27_any d (clean d) AB AC AK none none none nB cB nC cC nK cK 0 0 0 0 0 0 W HBx HCx HKx (by rw [hcl]; exact SliceIn.none_ (by simp [maxLen])) (by rw [hcl]; exact SliceIn.none_ (by simp [maxLen])) (by rw [hcl]; exact SliceIn.none_ (by simp [maxLen])) ⟨hnC, hnK⟩
    rw [c8, c8, hk] at h
    rw [show (clean d).kind = 0 by simp [hcl, Deed.of], show (clean d).conn = 0 by simp [hcl, Deed.of], show (clean d).n = 0 by simp [hcl, Deed.of], show (clean d).torn = 0 by simp [hcl, Deed.of], show (clean d).part = 0 by simp [hcl, Deed.of]] at h
    exact h)
  rw [hrd]
  rw [c8] at hwa hwb
  have c0 := R1.cell (j := 0) rfl
  have d0 := R2.cell (j := 0) rfl
  have c1 := R1.cell (j := 1) rfl
  have d1 := R2.cell (j := 1) rfl
  have c2 := R1.cell (j := 2) rfl
  have d2 := R2.cell (j := 2) rfl
  have c3 := R1.cell (j := 3) rfl
  have d3 := R2.cell (j := 3) rfl
  have c4 := R1.cell (j := 4) rfl
  have d4 := R2.cell (j := 4) rfl
  have c5 := R1.cell (j := 5) rfl
  have d5 := R2.cell (j := 5) rfl
  have c6 := R1.cell (j := 6) rfl
  have d6 := R2.cell (j := 6) rfl
  have c7 := R1.cell (j := 7) rfl
  have d7 := R2.cell (j := 7) rfl
  have ca0 : wa.cell? ⟨g0, 0, none⟩ = some (.int .i64 d.kind) := by rw [← hwa, ← hg0]; exact (RowAt.new w _ [.int .i64 d.kind, .int .i64 d.conn, .int .i64 d.n, .slice AB nB cB, .slice AC nC cC, .slice AK nK cK, .int .i64 d.torn, .int .i64 d.part]).cell (j := 0) rfl
  rw [hk] at c0 ca0 hwa ⊢
  have HR1 : Hid (RowAt wb g0 53 [.int .i64 0, .int .i64 d.conn, .int .i64 d.n, .slice AB nB cB, .slice AC nC cC, .slice AK nK cK, .int .i64 d.torn, .int .i64 d.part]) := Lib.hid (by rw [← hk]; exact R1)
  have HR2 : Hid (RowAt wb (g0 + 1) 53 [.int .i64 0, .int .i64 0, .int .i64 0, .slice none 0 0, .slice none 0 0, .slice none 0 0, .int .i64 0, .int .i64 0]) := Lib.hid R2
  rw [show (Deed.of 0).kind = 0 from rfl, show (Deed.of 0).conn = 0 from rfl, show (Deed.of 0).n = 0 from rfl, show (Deed.of 0).torn = 0 from rfl, show (Deed.of 0).part = 0 from rfl] at hwb
  rw [show (Deed.of 0).kind = 0 from rfl] at d0
  rw [show (Deed.of 0).conn = 0 from rfl] at d1
  rw [show (Deed.of 0).n = 0 from rfl] at d2
  rw [show (Deed.of 0).torn = 0 from rfl] at d6
  rw [show (Deed.of 0).part = 0 from rfl] at d7
  clear hrd hcl R1 R2 hB hC hK lB lC lK hd hk HB HC HK
  generalize sameD d (clean d) = sm at *
  generalize d.conn = xc at *
  generalize d.n = xn at *
  generalize d.torn = xt at *
  generalize d.part = xp at *
  have Hwb := Lib.hid hwb
  have Hza := Lib.hid hza
  have hgb : g0 + 2 ≤ wb.heap.size := by omega
  clear hwb hza hzb
  go_enter Try.func27, Try.ntmps27
  go_upto_region 4 with fail
  rw [Hwb.out, Hza.out]
  clear ca0
  go_upto_region 20 with fail
  have S3 : Hid (Same3 g0 wb wb) := Lib.hid ⟨Nat.le_refl _, fun _ _ => rfl⟩
  go_wp2_with (go_at_call 39; refine (SM.out _ S3.out).mono ?_; rintro e w8 ⟨rfl, hb8⟩)
  go_ret
  exact ⟨rfl, BB.out.trans (hb8.mono (by omega))⟩
set_option maxHeartbeats 4000000 in
theorem refRight27_k10 (d : Deed) (AB AC AK : Option Addr) (nB cB nC cC nK cK : Nat) (w : World) (hk : d.kind = 10)
    (hB : SliceIn w w.heap.size 1 AB nB cB (bytesV d.b)) (hC : SliceIn w w.heap.size 1 AC nC cC (intsV d.calls)) (hK : SliceIn w w.heap.size 1 AK nK cK (boolsV d.keep)) (hd : DeedN d) :
    Calls Try.prog 27 #[.agg (cells8 d (.slice AB nB cB) (.slice AC nC cC) (.slice AK nK cK)).toArray] w fun e w' => e = .returned (.bool (rightD d)) ∧ Below w.heap.size w w' := by
  rw [c8]
  obtain ⟨g0, hg0⟩ : ∃ g0, w.heap.size = g0 := ⟨_, rfl⟩
  obtain ⟨wa, hwa⟩ : ∃ wa, w.alloc (.cells (cells8 d (.slice AB nB cB) (.slice AC nC cC) (.slice AK nK cK)).toArray 53) = wa := ⟨_, rfl⟩
  obtain ⟨wb, hwb⟩ : ∃ wb, wa.alloc (.cells (cells8 (Deed.of 10) (.slice none 0 0) (.slice none 0 0) (.slice none 0 0)).toArray 53) = wb := ⟨_, rfl⟩
  rw [hg0]
  rw [hg0] at hB hC hK
  have hza : wa.heap.size = g0 + 1 := by rw [← hwa]; simp [hg0]
  have hzb : wb.heap.size = g0 + 2 := by rw [← hwb]; simp [hza]
  have BB : Hid (Below g0 w wb) := Lib.hid (by rw [← hwb, ← hwa]; exact ((Below.refl _ _).alloc (by omega) _).alloc (by simp; omega) _)
  have R1 : RowAt wb g0 53 (cells8 d (.slice AB nB cB) (.slice AC nC cC) (.slice AK nK cK)) := by rw [← hwb, ← hwa, ← hg0]; exact (RowAt.new w _ _).alloc _
  have R2 : RowAt wb (g0 + 1) 53 (cells8 (Deed.of 10) (.slice none 0 0) (.slice none 0 0) (.slice none 0 0)) := by rw [← hwb, ← hza]; exact RowAt.new wa _ _
  have HB := Lib.hid ((hB.below BB.out).more (show g0 ≤ wb.heap.size by omega))
  have HC := Lib.hid ((hC.below BB.out).more (show g0 ≤ wb.heap.size by omega))
  have HK := Lib.hid ((hK.below BB.out).more (show g0 ≤ wb.heap.size by omega))
  have lB : d.b.length = nB := by have := hB.1; rw [bytesV_length] at this; omega
  have lC : d.calls.length = nC := by have := hC.1; rw [intsV_length] at this; omega
  have lK : d.keep.length = nK := by have := hK.1; rw [boolsV_length] at this; omega
  have hnC : nC ≤ 1000000000 := by have := hd.lc; omega
  have hnK : nK ≤ 1000000000 := by have := hd.lk; omega
  have hcl : clean d = Deed.of 10 := by simp [clean, hk]
  have hrd : rightD d = sameD d (clean d) := by unfold rightD; rw [decide_eq_true (by omega : 0 ≤ d.kind ∧ d.kind ≤ 10)]; rfl
  have SM : Hid (∀ W, Same3 g0 wb W → Calls Try.prog 39 #[.agg #[.int .i64 10, .int .i64 d.conn, .int .i64 d.n, .slice AB nB cB, .slice AC nC cC, .slice AK nK cK, .int .i64 d.torn, .int .i64 d.part], .agg #[.int .i64 10, .int .i64 0, .int .i64 0, .slice none 0 0, .slice none 0 0, .slice none 0 0, .int .i64 0, .int .i64 0]] W fun e w' => e = .returned (.bool (sameD d (clean d))) ∧ Below W.heap.size W w') := Lib.hid (fun W hW => by
    have HBx : SliceIn W W.heap.size 1 AB nB cB (bytesV d.b) := ((hB.below BB.out).keep fun p hp => hW.2 p hp).more (by have := hW.1; omega)
    have HCx : SliceIn W W.heap.size 1 AC nC cC (intsV d.calls) := ((hC.below BB.out).keep fun p hp => hW.2 p hp).more (by have := hW.1; omega)
    have HKx : SliceIn W W.heap.size 1 AK nK cK (boolsV d.keep) := ((hK.below BB.out).keep fun p hp => hW.2 p hp).more (by have := hW.1; omega)
    have h := refSame27_any d (clean d) AB AC AK none none none nB cB nC cC nK cK 0 0 0 0 0 0 W HBx HCx HKx (by rw [hcl]; exact SliceIn.none_ (by simp [maxLen])) (by rw [hcl]; exact SliceIn.none_ (by simp [maxLen])) (by rw [hcl]; exact SliceIn.none_ (by simp [maxLen])) ⟨hnC, hnK⟩
    rw [c8, c8, hk] at h
    rw [show (clean d).kind = 10 by simp [hcl, Deed.of], show (clean d).conn = 0 by simp [hcl, Deed.of], show (clean d).n = 0 by simp [hcl, Deed.of], show (clean d).torn = 0 by simp [hcl, Deed.of], show (clean d).part = 0 by simp [hcl, Deed.of]] at h
    exact h)
  rw [hrd]
  rw [c8] at hwa hwb
  have c0 := R1.cell (j := 0) rfl
  have d0 := R2.cell (j := 0) rfl
  have c1 := R1.cell (j := 1) rfl
  have d1 := R2.cell (j := 1) rfl
  have c2 := R1.cell (j := 2) rfl
  have d2 := R2.cell (j := 2) rfl
  have c3 := R1.cell (j := 3) rfl
  have d3 := R2.cell (j := 3) rfl
  have c4 := R1.cell (j := 4) rfl
  have d4 := R2.cell (j := 4) rfl
  have c5 := R1.cell (j := 5) rfl
  have d5 := R2.cell (j := 5) rfl
  have c6 := R1.cell (j := 6) rfl
  have d6 := R2.cell (j := 6) rfl
  have c7 := R1.cell (j := 7) rfl
  have d7 := R2.cell (j := 7) rfl
  have ca0 : wa.cell? ⟨g0, 0, none⟩ = some (.int .i64 d.kind) := by rw [← hwa, ← hg0]; exact (RowAt.new w _ [.int .i64 d.kind, .int .i64 d.conn, .int .i64 d.n, .slice AB nB cB, .slice AC nC cC, .slice AK nK cK, .int .i64 d.torn, .int .i64 d.part]).cell (j := 0) rfl
  rw [hk] at c0 ca0 hwa ⊢
  have HR1 : Hid (RowAt wb g0 53 [.int .i64 10, .int .i64 d.conn, .int .i64 d.n, .slice AB nB cB, .slice AC nC cC, .slice AK nK cK, .int .i64 d.torn, .int .i64 d.part]) := Lib.hid (by rw [← hk]; exact R1)
  have HR2 : Hid (RowAt wb (g0 + 1) 53 [.int .i64 10, .int .i64 0, .int .i64 0, .slice none 0 0, .slice none 0 0, .slice none 0 0, .int .i64 0, .int .i64 0]) := Lib.hid R2
  rw [show (Deed.of 10).kind = 10 from rfl, show (Deed.of 10).conn = 0 from rfl, show (Deed.of 10).n = 0 from rfl, show (Deed.of 10).torn = 0 from rfl, show (Deed.of 10).part = 0 from rfl] at hwb
  rw [show (Deed.of 10).kind = 10 from rfl] at d0
  rw [show (Deed.of 10).conn = 0 from rfl] at d1
  rw [show (Deed.of 10).n = 0 from rfl] at d2
  rw [show (Deed.of 10).torn = 0 from rfl] at d6
  rw [show (Deed.of 10).part = 0 from rfl] at d7
  clear hrd hcl R1 R2 hB hC hK lB lC lK hd hk HB HC HK
  generalize sameD d (clean d) = sm at *
  generalize d.conn = xc at *
  generalize d.n = xn at *
  generalize d.torn = xt at *
  generalize d.part = xp at *
  have Hwb := Lib.hid hwb
  have Hza := Lib.hid hza
  have hgb : g0 + 2 ≤ wb.heap.size := by omega
  clear hwb hza hzb
  go_enter Try.func27, Try.ntmps27
  go_upto_region 4 with fail
  rw [Hwb.out, Hza.out]
  clear ca0
  go_upto_region 20 with fail
  have S3 : Hid (Same3 g0 wb wb) := Lib.hid ⟨Nat.le_refl _, fun _ _ => rfl⟩
  go_wp2_with (go_at_call 39; refine (SM.out _ S3.out).mono ?_; rintro e w8 ⟨rfl, hb8⟩)
  go_ret
  exact ⟨rfl, BB.out.trans (hb8.mono (by omega))⟩
set_option maxHeartbeats 4000000 in
theorem refRight27_k1 (d : Deed) (AB AC AK : Option Addr) (nB cB nC cC nK cK : Nat) (w : World) (hk : d.kind = 1)
    (hB : SliceIn w w.heap.size 1 AB nB cB (bytesV d.b)) (hC : SliceIn w w.heap.size 1 AC nC cC (intsV d.calls)) (hK : SliceIn w w.heap.size 1 AK nK cK (boolsV d.keep)) (hd : DeedN d) :
    Calls Try.prog 27 #[.agg (cells8 d (.slice AB nB cB) (.slice AC nC cC) (.slice AK nK cK)).toArray] w fun e w' => e = .returned (.bool (rightD d)) ∧ Below w.heap.size w w' := by
  rw [c8]
  obtain ⟨g0, hg0⟩ : ∃ g0, w.heap.size = g0 := ⟨_, rfl⟩
  obtain ⟨wa, hwa⟩ : ∃ wa, w.alloc (.cells (cells8 d (.slice AB nB cB) (.slice AC nC cC) (.slice AK nK cK)).toArray 53) = wa := ⟨_, rfl⟩
  obtain ⟨wb, hwb⟩ : ∃ wb, wa.alloc (.cells (cells8 (Deed.of 1) (.slice none 0 0) (.slice none 0 0) (.slice none 0 0)).toArray 53) = wb := ⟨_, rfl⟩
  rw [hg0]
  rw [hg0] at hB hC hK
  have hza : wa.heap.size = g0 + 1 := by rw [← hwa]; simp [hg0]
  have hzb : wb.heap.size = g0 + 2 := by rw [← hwb]; simp [hza]
  have BB : Hid (Below g0 w wb) := Lib.hid (by rw [← hwb, ← hwa]; exact ((Below.refl _ _).alloc (by omega) _).alloc (by simp; omega) _)
  have R1 : RowAt wb g0 53 (cells8 d (.slice AB nB cB) (.slice AC nC cC) (.slice AK nK cK)) := by rw [← hwb, ← hwa, ← hg0]; exact (RowAt.new w _ _).alloc _
  have R2 : RowAt wb (g0 + 1) 53 (cells8 (Deed.of 1) (.slice none 0 0) (.slice none 0 0) (.slice none 0 0)) := by rw [← hwb, ← hza]; exact RowAt.new wa _ _
  have HB := Lib.hid ((hB.below BB.out).more (show g0 ≤ wb.heap.size by omega))
  have HC := Lib.hid ((hC.below BB.out).more (show g0 ≤ wb.heap.size by omega))
  have HK := Lib.hid ((hK.below BB.out).more (show g0 ≤ wb.heap.size by omega))
  have lB : d.b.length = nB := by have := hB.1; rw [bytesV_length] at this; omega
  have lC : d.calls.length = nC := by have := hC.1; rw [intsV_length] at this; omega
  have lK : d.keep.length = nK := by have := hK.1; rw [boolsV_length] at this; omega
  have hnC : nC ≤ 1000000000 := by have := hd.lc; omega
  have hnK : nK ≤ 1000000000 := by have := hd.lk; omega
  have hcl : clean d = { Deed.of 1 with conn := d.conn, b := d.b } := by simp [clean, hk]
  have hrd : rightD d = sameD d (clean d) := by unfold rightD; rw [decide_eq_true (by omega : 0 ≤ d.kind ∧ d.kind ≤ 10)]; rfl
  have SM : Hid (∀ W, Same3 g0 wb W → Calls Try.prog 39 #[.agg #[.int .i64 1, .int .i64 d.conn, .int .i64 d.n, .slice AB nB cB, .slice AC nC cC, .slice AK nK cK, .int .i64 d.torn, .int .i64 d.part], .agg #[.int .i64 1, .int .i64 d.conn, .int .i64 0, .slice AB nB cB, .slice none 0 0, .slice none 0 0, .int .i64 0, .int .i64 0]] W fun e w' => e = .returned (.bool (sameD d (clean d))) ∧ Below W.heap.size W w') := Lib.hid (fun W hW => by
    have HBx : SliceIn W W.heap.size 1 AB nB cB (bytesV d.b) := ((hB.below BB.out).keep fun p hp => hW.2 p hp).more (by have := hW.1; omega)
    have HCx : SliceIn W W.heap.size 1 AC nC cC (intsV d.calls) := ((hC.below BB.out).keep fun p hp => hW.2 p hp).more (by have := hW.1; omega)
    have HKx : SliceIn W W.heap.size 1 AK nK cK (boolsV d.keep) := ((hK.below BB.out).keep fun p hp => hW.2 p hp).more (by have := hW.1; omega)
    have h := refSame27_any d (clean d) AB AC AK AB none none nB cB nC cC nK cK nB cB 0 0 0 0 W HBx HCx HKx (by rw [hcl]; exact HBx) (by rw [hcl]; exact SliceIn.none_ (by simp [maxLen])) (by rw [hcl]; exact SliceIn.none_ (by simp [maxLen])) ⟨hnC, hnK⟩
    rw [c8, c8, hk] at h
    rw [show (clean d).kind = 1 by simp [hcl, Deed.of], show (clean d).conn = d.conn by simp [hcl, Deed.of], show (clean d).n = 0 by simp [hcl, Deed.of], show (clean d).torn = 0 by simp [hcl, Deed.of], show (clean d).part = 0 by simp [hcl, Deed.of]] at h
    exact h)
  rw [hrd]
  rw [c8] at hwa hwb
  have c0 := R1.cell (j := 0) rfl
  have d0 := R2.cell (j := 0) rfl
  have c1 := R1.cell (j := 1) rfl
  have d1 := R2.cell (j := 1) rfl
  have c2 := R1.cell (j := 2) rfl
  have d2 := R2.cell (j := 2) rfl
  have c3 := R1.cell (j := 3) rfl
  have d3 := R2.cell (j := 3) rfl
  have c4 := R1.cell (j := 4) rfl
  have d4 := R2.cell (j := 4) rfl
  have c5 := R1.cell (j := 5) rfl
  have d5 := R2.cell (j := 5) rfl
  have c6 := R1.cell (j := 6) rfl
  have d6 := R2.cell (j := 6) rfl
  have c7 := R1.cell (j := 7) rfl
  have d7 := R2.cell (j := 7) rfl
  have f1 := R2.frozen (j := 1) (by show 1 < 8; omega)
  have f3 := R2.frozen (j := 3) (by show 3 < 8; omega)
  have ca0 : wa.cell? ⟨g0, 0, none⟩ = some (.int .i64 d.kind) := by rw [← hwa, ← hg0]; exact (RowAt.new w _ [.int .i64 d.kind, .int .i64 d.conn, .int .i64 d.n, .slice AB nB cB, .slice AC nC cC, .slice AK nK cK, .int .i64 d.torn, .int .i64 d.part]).cell (j := 0) rfl
  rw [hk] at c0 ca0 hwa ⊢
  have HR1 : Hid (RowAt wb g0 53 [.int .i64 1, .int .i64 d.conn, .int .i64 d.n, .slice AB nB cB, .slice AC nC cC, .slice AK nK cK, .int .i64 d.torn, .int .i64 d.part]) := Lib.hid (by rw [← hk]; exact R1)
  have HR2 : Hid (RowAt wb (g0 + 1) 53 [.int .i64 1, .int .i64 0, .int .i64 0, .slice none 0 0, .slice none 0 0, .slice none 0 0, .int .i64 0, .int .i64 0]) := Lib.hid R2
  rw [show (Deed.of 1).kind = 1 from rfl, show (Deed.of 1).conn = 0 from rfl, show (Deed.of 1).n = 0 from rfl, show (Deed.of 1).torn = 0 from rfl, show (Deed.of 1).part = 0 from rfl] at hwb
  rw [show (Deed.of 1).kind = 1 from rfl] at d0
  rw [show (Deed.of 1).conn = 0 from rfl] at d1
  rw [show (Deed.of 1).n = 0 from rfl] at d2
  rw [show (Deed.of 1).torn = 0 from rfl] at d6
  rw [show (Deed.of 1).part = 0 from rfl] at d7
  clear hrd hcl R1 R2 hB hC hK lB lC lK hd hk HB HC HK
  generalize sameD d (clean d) = sm at *
  generalize d.conn = xc at *
  generalize d.n = xn at *
  generalize d.torn = xt at *
  generalize d.part = xp at *
  have Hwb := Lib.hid hwb
  have Hza := Lib.hid hza
  have hgb : g0 + 2 ≤ wb.heap.size := by omega
  clear hwb hza hzb
  go_enter Try.func27, Try.ntmps27
  go_upto_region 4 with fail
  rw [Hwb.out, Hza.out]
  clear ca0
  go_upto_region 7 with fail
  go_region
  go_upto_region 20 with fail
  obtain ⟨wz, hwz⟩ : ∃ W, (wb.setCell ⟨g0 + 1, 1, none⟩ (.int .i64 xc)).setCell ⟨g0 + 1, 3, none⟩ (.slice AB nB cB) = W := ⟨_, rfl⟩
  rw [hwz]
  have S3 : Hid (Same3 g0 wb wz) := Lib.hid (by rw [← hwz]; exact (Same3.set (Same3.set (Same3.refl g0 wb) (show g0 ≤ g0 + 1 by omega) 1 _) (show g0 ≤ g0 + 1 by omega) 3 _))
  have RX : RowAt wz (g0 + 1) 53 [.int .i64 1, .int .i64 xc, .int .i64 0, .slice AB nB cB, .slice none 0 0, .slice none 0 0, .int .i64 0, .int .i64 0] := by rw [← hwz]; exact ((HR2.out.set_ (j := 1) (by show 1 < 8; omega) (.int .i64 xc)).set_ (j := 3) (by show 3 < 8; omega) (.slice AB nB cB))
  have OX : Hid (Below g0 w wz) := Lib.hid (by rw [← hwz]; exact ((BB.out.setCell (p := ⟨g0 + 1, 1, none⟩) (by show g0 ≤ g0 + 1; omega) _).setCell (p := ⟨g0 + 1, 3, none⟩) (by show g0 ≤ g0 + 1; omega) _))
  have S3d : Hid (Same3 g0 wb (wz.drewN 1)) := Lib.hid S3.out
  clear c0 d0 c1 d1 c2 d2 c3 d3 c4 d4 c5 d5 c6 d6 c7 d7 f1 f3
  have RZ : RowAt wz g0 53 [.int .i64 1, .int .i64 xc, .int .i64 xn, .slice AB nB cB, .slice AC nC cC, .slice AK nK cK, .int .i64 xt, .int .i64 xp] := by rw [← hwz]; exact ((HR1.out.far (p := ⟨g0 + 1, 1, none⟩) (by show g0 ≠ g0 + 1; omega) _).far (p := ⟨g0 + 1, 3, none⟩) (by show g0 ≠ g0 + 1; omega) _)
  have u0 := RZ.cell (j := 0) rfl
  have v0 := RX.cell (j := 0) rfl
  have u1 := RZ.cell (j := 1) rfl
  have v1 := RX.cell (j := 1) rfl
  have u2 := RZ.cell (j := 2) rfl
  have v2 := RX.cell (j := 2) rfl
  have u3 := RZ.cell (j := 3) rfl
  have v3 := RX.cell (j := 3) rfl
  have u4 := RZ.cell (j := 4) rfl
  have v4 := RX.cell (j := 4) rfl
  have u5 := RZ.cell (j := 5) rfl
  have v5 := RX.cell (j := 5) rfl
  have u6 := RZ.cell (j := 6) rfl
  have v6 := RX.cell (j := 6) rfl
  have u7 := RZ.cell (j := 7) rfl
  have v7 := RX.cell (j := 7) rfl
  clear RZ RX HR1 HR2 hwz
  go_wp2_with (go_at_call 39; refine (SM.out _ S3d.out).mono ?_; rintro e w8 ⟨rfl, hb8⟩)
  go_ret
  exact ⟨rfl, (below_drewN OX.out 1).trans (hb8.mono (by have := S3.out.1; show g0 ≤ wz.heap.size; omega))⟩
set_option maxHeartbeats 4000000 in
theorem refRight27_k2 (d : Deed) (AB AC AK : Option Addr) (nB cB nC cC nK cK : Nat) (w : World) (hk : d.kind = 2)
    (hB : SliceIn w w.heap.size 1 AB nB cB (bytesV d.b)) (hC : SliceIn w w.heap.size 1 AC nC cC (intsV d.calls)) (hK : SliceIn w w.heap.size 1 AK nK cK (boolsV d.keep)) (hd : DeedN d) :
    Calls Try.prog 27 #[.agg (cells8 d (.slice AB nB cB) (.slice AC nC cC) (.slice AK nK cK)).toArray] w fun e w' => e = .returned (.bool (rightD d)) ∧ Below w.heap.size w w' := by
  rw [c8]
  obtain ⟨g0, hg0⟩ : ∃ g0, w.heap.size = g0 := ⟨_, rfl⟩
  obtain ⟨wa, hwa⟩ : ∃ wa, w.alloc (.cells (cells8 d (.slice AB nB cB) (.slice AC nC cC) (.slice AK nK cK)).toArray 53) = wa := ⟨_, rfl⟩
  obtain ⟨wb, hwb⟩ : ∃ wb, wa.alloc (.cells (cells8 (Deed.of 2) (.slice none 0 0) (.slice none 0 0) (.slice none 0 0)).toArray 53) = wb := ⟨_, rfl⟩
  rw [hg0]
  rw [hg0] at hB hC hK
  have hza : wa.heap.size = g0 + 1 := by rw [← hwa]; simp [hg0]
  have hzb : wb.heap.size = g0 + 2 := by rw [← hwb]; simp [hza]
  have BB : Hid (Below g0 w wb) := Lib.hid (by rw [← hwb, ← hwa]; exact ((Below.refl _ _).alloc (by omega) _).alloc (by simp; omega) _)
  have R1 : RowAt wb g0 53 (cells8 d (.slice AB nB cB) (.slice AC nC cC) (.slice AK nK cK)) := by rw [← hwb, ← hwa, ← hg0]; exact (RowAt.new w _ _).alloc _
  have R2 : RowAt wb (g0 + 1) 53 (cells8 (Deed.of 2) (.slice none 0 0) (.slice none 0 0) (.slice none 0 0)) := by rw [← hwb, ← hza]; exact RowAt.new wa _ _
  have HB := Lib.hid ((hB.below BB.out).more (show g0 ≤ wb.heap.size by omega))
  have HC := Lib.hid ((hC.below BB.out).more (show g0 ≤ wb.heap.size by omega))
  have HK := Lib.hid ((hK.below BB.out).more (show g0 ≤ wb.heap.size by omega))
  have lB : d.b.length = nB := by have := hB.1; rw [bytesV_length] at this; omega
  have lC : d.calls.length = nC := by have := hC.1; rw [intsV_length] at this; omega
  have lK : d.keep.length = nK := by have := hK.1; rw [boolsV_length] at this; omega
  have hnC : nC ≤ 1000000000 := by have := hd.lc; omega
  have hnK : nK ≤ 1000000000 := by have := hd.lk; omega
  have hcl : clean d = { Deed.of 2 with conn := d.conn, b := d.b } := by simp [clean, hk]
  have hrd : rightD d = sameD d (clean d) := by unfold rightD; rw [decide_eq_true (by omega : 0 ≤ d.kind ∧ d.kind ≤ 10)]; rfl
  have SM : Hid (∀ W, Same3 g0 wb W → Calls Try.prog 39 #[.agg #[.int .i64 2, .int .i64 d.conn, .int .i64 d.n, .slice AB nB cB, .slice AC nC cC, .slice AK nK cK, .int .i64 d.torn, .int .i64 d.part], .agg #[.int .i64 2, .int .i64 d.conn, .int .i64 0, .slice AB nB cB, .slice none 0 0, .slice none 0 0, .int .i64 0, .int .i64 0]] W fun e w' => e = .returned (.bool (sameD d (clean d))) ∧ Below W.heap.size W w') := Lib.hid (fun W hW => by
    have HBx : SliceIn W W.heap.size 1 AB nB cB (bytesV d.b) := ((hB.below BB.out).keep fun p hp => hW.2 p hp).more (by have := hW.1; omega)
    have HCx : SliceIn W W.heap.size 1 AC nC cC (intsV d.calls) := ((hC.below BB.out).keep fun p hp => hW.2 p hp).more (by have := hW.1; omega)
    have HKx : SliceIn W W.heap.size 1 AK nK cK (boolsV d.keep) := ((hK.below BB.out).keep fun p hp => hW.2 p hp).more (by have := hW.1; omega)
    have h := refSame27_any d (clean d) AB AC AK AB none none nB cB nC cC nK cK nB cB 0 0 0 0 W HBx HCx HKx (by rw [hcl]; exact HBx) (by rw [hcl]; exact SliceIn.none_ (by simp [maxLen])) (by rw [hcl]; exact SliceIn.none_ (by simp [maxLen])) ⟨hnC, hnK⟩
    rw [c8, c8, hk] at h
    rw [show (clean d).kind = 2 by simp [hcl, Deed.of], show (clean d).conn = d.conn by simp [hcl, Deed.of], show (clean d).n = 0 by simp [hcl, Deed.of], show (clean d).torn = 0 by simp [hcl, Deed.of], show (clean d).part = 0 by simp [hcl, Deed.of]] at h
    exact h)
  rw [hrd]
  rw [c8] at hwa hwb
  have c0 := R1.cell (j := 0) rfl
  have d0 := R2.cell (j := 0) rfl
  have c1 := R1.cell (j := 1) rfl
  have d1 := R2.cell (j := 1) rfl
  have c2 := R1.cell (j := 2) rfl
  have d2 := R2.cell (j := 2) rfl
  have c3 := R1.cell (j := 3) rfl
  have d3 := R2.cell (j := 3) rfl
  have c4 := R1.cell (j := 4) rfl
  have d4 := R2.cell (j := 4) rfl
  have c5 := R1.cell (j := 5) rfl
  have d5 := R2.cell (j := 5) rfl
  have c6 := R1.cell (j := 6) rfl
  have d6 := R2.cell (j := 6) rfl
  have c7 := R1.cell (j := 7) rfl
  have d7 := R2.cell (j := 7) rfl
  have f1 := R2.frozen (j := 1) (by show 1 < 8; omega)
  have f3 := R2.frozen (j := 3) (by show 3 < 8; omega)
  have ca0 : wa.cell? ⟨g0, 0, none⟩ = some (.int .i64 d.kind) := by rw [← hwa, ← hg0]; exact (RowAt.new w _ [.int .i64 d.kind, .int .i64 d.conn, .int .i64 d.n, .slice AB nB cB, .slice AC nC cC, .slice AK nK cK, .int .i64 d.torn, .int .i64 d.part]).cell (j := 0) rfl
  rw [hk] at c0 ca0 hwa ⊢
  have HR1 : Hid (RowAt wb g0 53 [.int .i64 2, .int .i64 d.conn, .int .i64 d.n, .slice AB nB cB, .slice AC nC cC, .slice AK nK cK, .int .i64 d.torn, .int .i64 d.part]) := Lib.hid (by rw [← hk]; exact R1)
  have HR2 : Hid (RowAt wb (g0 + 1) 53 [.int .i64 2, .int .i64 0, .int .i64 0, .slice none 0 0, .slice none 0 0, .slice none 0 0, .int .i64 0, .int .i64 0]) := Lib.hid R2
  rw [show (Deed.of 2).kind = 2 from rfl, show (Deed.of 2).conn = 0 from rfl, show (Deed.of 2).n = 0 from rfl, show (Deed.of 2).torn = 0 from rfl, show (Deed.of 2).part = 0 from rfl] at hwb
  rw [show (Deed.of 2).kind = 2 from rfl] at d0
  rw [show (Deed.of 2).conn = 0 from rfl] at d1
  rw [show (Deed.of 2).n = 0 from rfl] at d2
  rw [show (Deed.of 2).torn = 0 from rfl] at d6
  rw [show (Deed.of 2).part = 0 from rfl] at d7
  clear hrd hcl R1 R2 hB hC hK lB lC lK hd hk HB HC HK
  generalize sameD d (clean d) = sm at *
  generalize d.conn = xc at *
  generalize d.n = xn at *
  generalize d.torn = xt at *
  generalize d.part = xp at *
  have Hwb := Lib.hid hwb
  have Hza := Lib.hid hza
  have hgb : g0 + 2 ≤ wb.heap.size := by omega
  clear hwb hza hzb
  go_enter Try.func27, Try.ntmps27
  go_upto_region 4 with fail
  rw [Hwb.out, Hza.out]
  clear ca0
  go_upto_region 7 with fail
  go_region
  go_upto_region 20 with fail
  obtain ⟨wz, hwz⟩ : ∃ W, (wb.setCell ⟨g0 + 1, 1, none⟩ (.int .i64 xc)).setCell ⟨g0 + 1, 3, none⟩ (.slice AB nB cB) = W := ⟨_, rfl⟩
  rw [hwz]
  have S3 : Hid (Same3 g0 wb wz) := Lib.hid (by rw [← hwz]; exact (Same3.set (Same3.set (Same3.refl g0 wb) (show g0 ≤ g0 + 1 by omega) 1 _) (show g0 ≤ g0 + 1 by omega) 3 _))
  have RX : RowAt wz (g0 + 1) 53 [.int .i64 2, .int .i64 xc, .int .i64 0, .slice AB nB cB, .slice none 0 0, .slice none 0 0, .int .i64 0, .int .i64 0] := by rw [← hwz]; exact ((HR2.out.set_ (j := 1) (by show 1 < 8; omega) (.int .i64 xc)).set_ (j := 3) (by show 3 < 8; omega) (.slice AB nB cB))
  have OX : Hid (Below g0 w wz) := Lib.hid (by rw [← hwz]; exact ((BB.out.setCell (p := ⟨g0 + 1, 1, none⟩) (by show g0 ≤ g0 + 1; omega) _).setCell (p := ⟨g0 + 1, 3, none⟩) (by show g0 ≤ g0 + 1; omega) _))
  have S3d : Hid (Same3 g0 wb (wz.drewN 1)) := Lib.hid S3.out
  clear c0 d0 c1 d1 c2 d2 c3 d3 c4 d4 c5 d5 c6 d6 c7 d7 f1 f3
  have RZ : RowAt wz g0 53 [.int .i64 2, .int .i64 xc, .int .i64 xn, .slice AB nB cB, .slice AC nC cC, .slice AK nK cK, .int .i64 xt, .int .i64 xp] := by rw [← hwz]; exact ((HR1.out.far (p := ⟨g0 + 1, 1, none⟩) (by show g0 ≠ g0 + 1; omega) _).far (p := ⟨g0 + 1, 3, none⟩) (by show g0 ≠ g0 + 1; omega) _)
  have u0 := RZ.cell (j := 0) rfl
  have v0 := RX.cell (j := 0) rfl
  have u1 := RZ.cell (j := 1) rfl
  have v1 := RX.cell (j := 1) rfl
  have u2 := RZ.cell (j := 2) rfl
  have v2 := RX.cell (j := 2) rfl
  have u3 := RZ.cell (j := 3) rfl
  have v3 := RX.cell (j := 3) rfl
  have u4 := RZ.cell (j := 4) rfl
  have v4 := RX.cell (j := 4) rfl
  have u5 := RZ.cell (j := 5) rfl
  have v5 := RX.cell (j := 5) rfl
  have u6 := RZ.cell (j := 6) rfl
  have v6 := RX.cell (j := 6) rfl
  have u7 := RZ.cell (j := 7) rfl
  have v7 := RX.cell (j := 7) rfl
  clear RZ RX HR1 HR2 hwz
  go_wp2_with (go_at_call 39; refine (SM.out _ S3d.out).mono ?_; rintro e w8 ⟨rfl, hb8⟩)
  go_ret
  exact ⟨rfl, (below_drewN OX.out 1).trans (hb8.mono (by have := S3.out.1; show g0 ≤ wz.heap.size; omega))⟩
set_option maxHeartbeats 4000000 in
theorem refRight27_k3 (d : Deed) (AB AC AK : Option Addr) (nB cB nC cC nK cK : Nat) (w : World) (hk : d.kind = 3)
    (hB : SliceIn w w.heap.size 1 AB nB cB (bytesV d.b)) (hC : SliceIn w w.heap.size 1 AC nC cC (intsV d.calls)) (hK : SliceIn w w.heap.size 1 AK nK cK (boolsV d.keep)) (hd : DeedN d) :
    Calls Try.prog 27 #[.agg (cells8 d (.slice AB nB cB) (.slice AC nC cC) (.slice AK nK cK)).toArray] w fun e w' => e = .returned (.bool (rightD d)) ∧ Below w.heap.size w w' := by
  rw [c8]
  obtain ⟨g0, hg0⟩ : ∃ g0, w.heap.size = g0 := ⟨_, rfl⟩
  obtain ⟨wa, hwa⟩ : ∃ wa, w.alloc (.cells (cells8 d (.slice AB nB cB) (.slice AC nC cC) (.slice AK nK cK)).toArray 53) = wa := ⟨_, rfl⟩
  obtain ⟨wb, hwb⟩ : ∃ wb, wa.alloc (.cells (cells8 (Deed.of 3) (.slice none 0 0) (.slice none 0 0) (.slice none 0 0)).toArray 53) = wb := ⟨_, rfl⟩
  rw [hg0]
  rw [hg0] at hB hC hK
  have hza : wa.heap.size = g0 + 1 := by rw [← hwa]; simp [hg0]
  have hzb : wb.heap.size = g0 + 2 := by rw [← hwb]; simp [hza]
  have BB : Hid (Below g0 w wb) := Lib.hid (by rw [← hwb, ← hwa]; exact ((Below.refl _ _).alloc (by omega) _).alloc (by simp; omega) _)
  have R1 : RowAt wb g0 53 (cells8 d (.slice AB nB cB) (.slice AC nC cC) (.slice AK nK cK)) := by rw [← hwb, ← hwa, ← hg0]; exact (RowAt.new w _ _).alloc _
  have R2 : RowAt wb (g0 + 1) 53 (cells8 (Deed.of 3) (.slice none 0 0) (.slice none 0 0) (.slice none 0 0)) := by rw [← hwb, ← hza]; exact RowAt.new wa _ _
  have HB := Lib.hid ((hB.below BB.out).more (show g0 ≤ wb.heap.size by omega))
  have HC := Lib.hid ((hC.below BB.out).more (show g0 ≤ wb.heap.size by omega))
  have HK := Lib.hid ((hK.below BB.out).more (show g0 ≤ wb.heap.size by omega))
  have lB : d.b.length = nB := by have := hB.1; rw [bytesV_length] at this; omega
  have lC : d.calls.length = nC := by have := hC.1; rw [intsV_length] at this; omega
  have lK : d.keep.length = nK := by have := hK.1; rw [boolsV_length] at this; omega
  have hnC : nC ≤ 1000000000 := by have := hd.lc; omega
  have hnK : nK ≤ 1000000000 := by have := hd.lk; omega
  have hcl : clean d = { Deed.of 3 with conn := d.conn } := by simp [clean, hk]
  have hrd : rightD d = sameD d (clean d) := by unfold rightD; rw [decide_eq_true (by omega : 0 ≤ d.kind ∧ d.kind ≤ 10)]; rfl
  have SM : Hid (∀ W, Same3 g0 wb W → Calls Try.prog 39 #[.agg #[.int .i64 3, .int .i64 d.conn, .int .i64 d.n, .slice AB nB cB, .slice AC nC cC, .slice AK nK cK, .int .i64 d.torn, .int .i64 d.part], .agg #[.int .i64 3, .int .i64 d.conn, .int .i64 0, .slice none 0 0, .slice none 0 0, .slice none 0 0, .int .i64 0, .int .i64 0]] W fun e w' => e = .returned (.bool (sameD d (clean d))) ∧ Below W.heap.size W w') := Lib.hid (fun W hW => by
    have HBx : SliceIn W W.heap.size 1 AB nB cB (bytesV d.b) := ((hB.below BB.out).keep fun p hp => hW.2 p hp).more (by have := hW.1; omega)
    have HCx : SliceIn W W.heap.size 1 AC nC cC (intsV d.calls) := ((hC.below BB.out).keep fun p hp => hW.2 p hp).more (by have := hW.1; omega)
    have HKx : SliceIn W W.heap.size 1 AK nK cK (boolsV d.keep) := ((hK.below BB.out).keep fun p hp => hW.2 p hp).more (by have := hW.1; omega)
    have h := refSame27_any d (clean d) AB AC AK none none none nB cB nC cC nK cK 0 0 0 0 0 0 W HBx HCx HKx (by rw [hcl]; exact SliceIn.none_ (by simp [maxLen])) (by rw [hcl]; exact SliceIn.none_ (by simp [maxLen])) (by rw [hcl]; exact SliceIn.none_ (by simp [maxLen])) ⟨hnC, hnK⟩
    rw [c8, c8, hk] at h
    rw [show (clean d).kind = 3 by simp [hcl, Deed.of], show (clean d).conn = d.conn by simp [hcl, Deed.of], show (clean d).n = 0 by simp [hcl, Deed.of], show (clean d).torn = 0 by simp [hcl, Deed.of], show (clean d).part = 0 by simp [hcl, Deed.of]] at h
    exact h)
  rw [hrd]
  rw [c8] at hwa hwb
  have c0 := R1.cell (j := 0) rfl
  have d0 := R2.cell (j := 0) rfl
  have c1 := R1.cell (j := 1) rfl
  have d1 := R2.cell (j := 1) rfl
  have c2 := R1.cell (j := 2) rfl
  have d2 := R2.cell (j := 2) rfl
  have c3 := R1.cell (j := 3) rfl
  have d3 := R2.cell (j := 3) rfl
  have c4 := R1.cell (j := 4) rfl
  have d4 := R2.cell (j := 4) rfl
  have c5 := R1.cell (j := 5) rfl
  have d5 := R2.cell (j := 5) rfl
  have c6 := R1.cell (j := 6) rfl
  have d6 := R2.cell (j := 6) rfl
  have c7 := R1.cell (j := 7) rfl
  have d7 := R2.cell (j := 7) rfl
  have f1 := R2.frozen (j := 1) (by show 1 < 8; omega)
  have ca0 : wa.cell? ⟨g0, 0, none⟩ = some (.int .i64 d.kind) := by rw [← hwa, ← hg0]; exact (RowAt.new w _ [.int .i64 d.kind, .int .i64 d.conn, .int .i64 d.n, .slice AB nB cB, .slice AC nC cC, .slice AK nK cK, .int .i64 d.torn, .int .i64 d.part]).cell (j := 0) rfl
  rw [hk] at c0 ca0 hwa ⊢
  have HR1 : Hid (RowAt wb g0 53 [.int .i64 3, .int .i64 d.conn, .int .i64 d.n, .slice AB nB cB, .slice AC nC cC, .slice AK nK cK, .int .i64 d.torn, .int .i64 d.part]) := Lib.hid (by rw [← hk]; exact R1)
  have HR2 : Hid (RowAt wb (g0 + 1) 53 [.int .i64 3, .int .i64 0, .int .i64 0, .slice none 0 0, .slice none 0 0, .slice none 0 0, .int .i64 0, .int .i64 0]) := Lib.hid R2
  rw [show (Deed.of 3).kind = 3 from rfl, show (Deed.of 3).conn = 0 from rfl, show (Deed.of 3).n = 0 from rfl, show (Deed.of 3).torn = 0 from rfl, show (Deed.of 3).part = 0 from rfl] at hwb
  rw [show (Deed.of 3).kind = 3 from rfl] at d0
  rw [show (Deed.of 3).conn = 0 from rfl] at d1
  rw [show (Deed.of 3).n = 0 from rfl] at d2
  rw [show (Deed.of 3).torn = 0 from rfl] at d6
  rw [show (Deed.of 3).part = 0 from rfl] at d7
  clear hrd hcl R1 R2 hB hC hK lB lC lK hd hk HB HC HK
  generalize sameD d (clean d) = sm at *
  generalize d.conn = xc at *
  generalize d.n = xn at *
  generalize d.torn = xt at *
  generalize d.part = xp at *
  have Hwb := Lib.hid hwb
  have Hza := Lib.hid hza
  have hgb : g0 + 2 ≤ wb.heap.size := by omega
  clear hwb hza hzb
  go_enter Try.func27, Try.ntmps27
  go_upto_region 4 with fail
  rw [Hwb.out, Hza.out]
  clear ca0
  go_upto_region 10 with fail
  go_upto_region 20 with fail
  obtain ⟨wz, hwz⟩ : ∃ W, wb.setCell ⟨g0 + 1, 1, none⟩ (.int .i64 xc) = W := ⟨_, rfl⟩
  rw [hwz]
  have S3 : Hid (Same3 g0 wb wz) := Lib.hid (by rw [← hwz]; exact (Same3.set (Same3.refl g0 wb) (show g0 ≤ g0 + 1 by omega) 1 _))
  have RX : RowAt wz (g0 + 1) 53 [.int .i64 3, .int .i64 xc, .int .i64 0, .slice none 0 0, .slice none 0 0, .slice none 0 0, .int .i64 0, .int .i64 0] := by rw [← hwz]; exact (HR2.out.set_ (j := 1) (by show 1 < 8; omega) (.int .i64 xc))
  have OX : Hid (Below g0 w wz) := Lib.hid (by rw [← hwz]; exact (BB.out.setCell (p := ⟨g0 + 1, 1, none⟩) (by show g0 ≤ g0 + 1; omega) _))
  clear c0 d0 c1 d1 c2 d2 c3 d3 c4 d4 c5 d5 c6 d6 c7 d7 f1
  have RZ : RowAt wz g0 53 [.int .i64 3, .int .i64 xc, .int .i64 xn, .slice AB nB cB, .slice AC nC cC, .slice AK nK cK, .int .i64 xt, .int .i64 xp] := by rw [← hwz]; exact (HR1.out.far (p := ⟨g0 + 1, 1, none⟩) (by show g0 ≠ g0 + 1; omega) _)
  have u0 := RZ.cell (j := 0) rfl
  have v0 := RX.cell (j := 0) rfl
  have u1 := RZ.cell (j := 1) rfl
  have v1 := RX.cell (j := 1) rfl
  have u2 := RZ.cell (j := 2) rfl
  have v2 := RX.cell (j := 2) rfl
  have u3 := RZ.cell (j := 3) rfl
  have v3 := RX.cell (j := 3) rfl
  have u4 := RZ.cell (j := 4) rfl
  have v4 := RX.cell (j := 4) rfl
  have u5 := RZ.cell (j := 5) rfl
  have v5 := RX.cell (j := 5) rfl
  have u6 := RZ.cell (j := 6) rfl
  have v6 := RX.cell (j := 6) rfl
  have u7 := RZ.cell (j := 7) rfl
  have v7 := RX.cell (j := 7) rfl
  clear RZ RX HR1 HR2 hwz
  go_wp2_with (go_at_call 39; refine (SM.out _ S3.out).mono ?_; rintro e w8 ⟨rfl, hb8⟩)
  go_ret
  exact ⟨rfl, OX.out.trans (hb8.mono (by have := S3.out.1; omega))⟩
set_option maxHeartbeats 4000000 in
theorem refRight27_k4 (d : Deed) (AB AC AK : Option Addr) (nB cB nC cC nK cK : Nat) (w : World) (hk : d.kind = 4)
    (hB : SliceIn w w.heap.size 1 AB nB cB (bytesV d.b)) (hC : SliceIn w w.heap.size 1 AC nC cC (intsV d.calls)) (hK : SliceIn w w.heap.size 1 AK nK cK (boolsV d.keep)) (hd : DeedN d) :
    Calls Try.prog 27 #[.agg (cells8 d (.slice AB nB cB) (.slice AC nC cC) (.slice AK nK cK)).toArray] w fun e w' => e = .returned (.bool (rightD d)) ∧ Below w.heap.size w w' := by
  rw [c8]
  obtain ⟨g0, hg0⟩ : ∃ g0, w.heap.size = g0 := ⟨_, rfl⟩
  obtain ⟨wa, hwa⟩ : ∃ wa, w.alloc (.cells (cells8 d (.slice AB nB cB) (.slice AC nC cC) (.slice AK nK cK)).toArray 53) = wa := ⟨_, rfl⟩
  obtain ⟨wb, hwb⟩ : ∃ wb, wa.alloc (.cells (cells8 (Deed.of 4) (.slice none 0 0) (.slice none 0 0) (.slice none 0 0)).toArray 53) = wb := ⟨_, rfl⟩
  rw [hg0]
  rw [hg0] at hB hC hK
  have hza : wa.heap.size = g0 + 1 := by rw [← hwa]; simp [hg0]
  have hzb : wb.heap.size = g0 + 2 := by rw [← hwb]; simp [hza]
  have BB : Hid (Below g0 w wb) := Lib.hid (by rw [← hwb, ← hwa]; exact ((Below.refl _ _).alloc (by omega) _).alloc (by simp; omega) _)
  have R1 : RowAt wb g0 53 (cells8 d (.slice AB nB cB) (.slice AC nC cC) (.slice AK nK cK)) := by rw [← hwb, ← hwa, ← hg0]; exact (RowAt.new w _ _).alloc _
  have R2 : RowAt wb (g0 + 1) 53 (cells8 (Deed.of 4) (.slice none 0 0) (.slice none 0 0) (.slice none 0 0)) := by rw [← hwb, ← hza]; exact RowAt.new wa _ _
  have HB := Lib.hid ((hB.below BB.out).more (show g0 ≤ wb.heap.size by omega))
  have HC := Lib.hid ((hC.below BB.out).more (show g0 ≤ wb.heap.size by omega))
  have HK := Lib.hid ((hK.below BB.out).more (show g0 ≤ wb.heap.size by omega))
  have lB : d.b.length = nB := by have := hB.1; rw [bytesV_length] at this; omega
  have lC : d.calls.length = nC := by have := hC.1; rw [intsV_length] at this; omega
  have lK : d.keep.length = nK := by have := hK.1; rw [boolsV_length] at this; omega
  have hnC : nC ≤ 1000000000 := by have := hd.lc; omega
  have hnK : nK ≤ 1000000000 := by have := hd.lk; omega
  have hcl : clean d = { Deed.of 4 with conn := d.conn } := by simp [clean, hk]
  have hrd : rightD d = sameD d (clean d) := by unfold rightD; rw [decide_eq_true (by omega : 0 ≤ d.kind ∧ d.kind ≤ 10)]; rfl
  have SM : Hid (∀ W, Same3 g0 wb W → Calls Try.prog 39 #[.agg #[.int .i64 4, .int .i64 d.conn, .int .i64 d.n, .slice AB nB cB, .slice AC nC cC, .slice AK nK cK, .int .i64 d.torn, .int .i64 d.part], .agg #[.int .i64 4, .int .i64 d.conn, .int .i64 0, .slice none 0 0, .slice none 0 0, .slice none 0 0, .int .i64 0, .int .i64 0]] W fun e w' => e = .returned (.bool (sameD d (clean d))) ∧ Below W.heap.size W w') := Lib.hid (fun W hW => by
    have HBx : SliceIn W W.heap.size 1 AB nB cB (bytesV d.b) := ((hB.below BB.out).keep fun p hp => hW.2 p hp).more (by have := hW.1; omega)
    have HCx : SliceIn W W.heap.size 1 AC nC cC (intsV d.calls) := ((hC.below BB.out).keep fun p hp => hW.2 p hp).more (by have := hW.1; omega)
    have HKx : SliceIn W W.heap.size 1 AK nK cK (boolsV d.keep) := ((hK.below BB.out).keep fun p hp => hW.2 p hp).more (by have := hW.1; omega)
    have h := refSame27_any d (clean d) AB AC AK none none none nB cB nC cC nK cK 0 0 0 0 0 0 W HBx HCx HKx (by rw [hcl]; exact SliceIn.none_ (by simp [maxLen])) (by rw [hcl]; exact SliceIn.none_ (by simp [maxLen])) (by rw [hcl]; exact SliceIn.none_ (by simp [maxLen])) ⟨hnC, hnK⟩
    rw [c8, c8, hk] at h
    rw [show (clean d).kind = 4 by simp [hcl, Deed.of], show (clean d).conn = d.conn by simp [hcl, Deed.of], show (clean d).n = 0 by simp [hcl, Deed.of], show (clean d).torn = 0 by simp [hcl, Deed.of], show (clean d).part = 0 by simp [hcl, Deed.of]] at h
    exact h)
  rw [hrd]
  rw [c8] at hwa hwb
  have c0 := R1.cell (j := 0) rfl
  have d0 := R2.cell (j := 0) rfl
  have c1 := R1.cell (j := 1) rfl
  have d1 := R2.cell (j := 1) rfl
  have c2 := R1.cell (j := 2) rfl
  have d2 := R2.cell (j := 2) rfl
  have c3 := R1.cell (j := 3) rfl
  have d3 := R2.cell (j := 3) rfl
  have c4 := R1.cell (j := 4) rfl
  have d4 := R2.cell (j := 4) rfl
  have c5 := R1.cell (j := 5) rfl
  have d5 := R2.cell (j := 5) rfl
  have c6 := R1.cell (j := 6) rfl
  have d6 := R2.cell (j := 6) rfl
  have c7 := R1.cell (j := 7) rfl
  have d7 := R2.cell (j := 7) rfl
  have f1 := R2.frozen (j := 1) (by show 1 < 8; omega)
  have ca0 : wa.cell? ⟨g0, 0, none⟩ = some (.int .i64 d.kind) := by rw [← hwa, ← hg0]; exact (RowAt.new w _ [.int .i64 d.kind, .int .i64 d.conn, .int .i64 d.n, .slice AB nB cB, .slice AC nC cC, .slice AK nK cK, .int .i64 d.torn, .int .i64 d.part]).cell (j := 0) rfl
  rw [hk] at c0 ca0 hwa ⊢
  have HR1 : Hid (RowAt wb g0 53 [.int .i64 4, .int .i64 d.conn, .int .i64 d.n, .slice AB nB cB, .slice AC nC cC, .slice AK nK cK, .int .i64 d.torn, .int .i64 d.part]) := Lib.hid (by rw [← hk]; exact R1)
  have HR2 : Hid (RowAt wb (g0 + 1) 53 [.int .i64 4, .int .i64 0, .int .i64 0, .slice none 0 0, .slice none 0 0, .slice none 0 0, .int .i64 0, .int .i64 0]) := Lib.hid R2
  rw [show (Deed.of 4).kind = 4 from rfl, show (Deed.of 4).conn = 0 from rfl, show (Deed.of 4).n = 0 from rfl, show (Deed.of 4).torn = 0 from rfl, show (Deed.of 4).part = 0 from rfl] at hwb
  rw [show (Deed.of 4).kind = 4 from rfl] at d0
  rw [show (Deed.of 4).conn = 0 from rfl] at d1
  rw [show (Deed.of 4).n = 0 from rfl] at d2
  rw [show (Deed.of 4).torn = 0 from rfl] at d6
  rw [show (Deed.of 4).part = 0 from rfl] at d7
  clear hrd hcl R1 R2 hB hC hK lB lC lK hd hk HB HC HK
  generalize sameD d (clean d) = sm at *
  generalize d.conn = xc at *
  generalize d.n = xn at *
  generalize d.torn = xt at *
  generalize d.part = xp at *
  have Hwb := Lib.hid hwb
  have Hza := Lib.hid hza
  have hgb : g0 + 2 ≤ wb.heap.size := by omega
  clear hwb hza hzb
  go_enter Try.func27, Try.ntmps27
  go_upto_region 4 with fail
  rw [Hwb.out, Hza.out]
  clear ca0
  go_upto_region 10 with fail
  go_upto_region 20 with fail
  obtain ⟨wz, hwz⟩ : ∃ W, wb.setCell ⟨g0 + 1, 1, none⟩ (.int .i64 xc) = W := ⟨_, rfl⟩
  rw [hwz]
  have S3 : Hid (Same3 g0 wb wz) := Lib.hid (by rw [← hwz]; exact (Same3.set (Same3.refl g0 wb) (show g0 ≤ g0 + 1 by omega) 1 _))
  have RX : RowAt wz (g0 + 1) 53 [.int .i64 4, .int .i64 xc, .int .i64 0, .slice none 0 0, .slice none 0 0, .slice none 0 0, .int .i64 0, .int .i64 0] := by rw [← hwz]; exact (HR2.out.set_ (j := 1) (by show 1 < 8; omega) (.int .i64 xc))
  have OX : Hid (Below g0 w wz) := Lib.hid (by rw [← hwz]; exact (BB.out.setCell (p := ⟨g0 + 1, 1, none⟩) (by show g0 ≤ g0 + 1; omega) _))
  clear c0 d0 c1 d1 c2 d2 c3 d3 c4 d4 c5 d5 c6 d6 c7 d7 f1
  have RZ : RowAt wz g0 53 [.int .i64 4, .int .i64 xc, .int .i64 xn, .slice AB nB cB, .slice AC nC cC, .slice AK nK cK, .int .i64 xt, .int .i64 xp] := by rw [← hwz]; exact (HR1.out.far (p := ⟨g0 + 1, 1, none⟩) (by show g0 ≠ g0 + 1; omega) _)
  have u0 := RZ.cell (j := 0) rfl
  have v0 := RX.cell (j := 0) rfl
  have u1 := RZ.cell (j := 1) rfl
  have v1 := RX.cell (j := 1) rfl
  have u2 := RZ.cell (j := 2) rfl
  have v2 := RX.cell (j := 2) rfl
  have u3 := RZ.cell (j := 3) rfl
  have v3 := RX.cell (j := 3) rfl
  have u4 := RZ.cell (j := 4) rfl
  have v4 := RX.cell (j := 4) rfl
  have u5 := RZ.cell (j := 5) rfl
  have v5 := RX.cell (j := 5) rfl
  have u6 := RZ.cell (j := 6) rfl
  have v6 := RX.cell (j := 6) rfl
  have u7 := RZ.cell (j := 7) rfl
  have v7 := RX.cell (j := 7) rfl
  clear RZ RX HR1 HR2 hwz
  go_wp2_with (go_at_call 39; refine (SM.out _ S3.out).mono ?_; rintro e w8 ⟨rfl, hb8⟩)
  go_ret
  exact ⟨rfl, OX.out.trans (hb8.mono (by have := S3.out.1; omega))⟩
set_option maxHeartbeats 4000000 in
theorem refRight27_k5 (d : Deed) (AB AC AK : Option Addr) (nB cB nC cC nK cK : Nat) (w : World) (hk : d.kind = 5)
    (hB : SliceIn w w.heap.size 1 AB nB cB (bytesV d.b)) (hC : SliceIn w w.heap.size 1 AC nC cC (intsV d.calls)) (hK : SliceIn w w.heap.size 1 AK nK cK (boolsV d.keep)) (hd : DeedN d) :
    Calls Try.prog 27 #[.agg (cells8 d (.slice AB nB cB) (.slice AC nC cC) (.slice AK nK cK)).toArray] w fun e w' => e = .returned (.bool (rightD d)) ∧ Below w.heap.size w w' := by
  rw [c8]
  obtain ⟨g0, hg0⟩ : ∃ g0, w.heap.size = g0 := ⟨_, rfl⟩
  obtain ⟨wa, hwa⟩ : ∃ wa, w.alloc (.cells (cells8 d (.slice AB nB cB) (.slice AC nC cC) (.slice AK nK cK)).toArray 53) = wa := ⟨_, rfl⟩
  obtain ⟨wb, hwb⟩ : ∃ wb, wa.alloc (.cells (cells8 (Deed.of 5) (.slice none 0 0) (.slice none 0 0) (.slice none 0 0)).toArray 53) = wb := ⟨_, rfl⟩
  rw [hg0]
  rw [hg0] at hB hC hK
  have hza : wa.heap.size = g0 + 1 := by rw [← hwa]; simp [hg0]
  have hzb : wb.heap.size = g0 + 2 := by rw [← hwb]; simp [hza]
  have BB : Hid (Below g0 w wb) := Lib.hid (by rw [← hwb, ← hwa]; exact ((Below.refl _ _).alloc (by omega) _).alloc (by simp; omega) _)
  have R1 : RowAt wb g0 53 (cells8 d (.slice AB nB cB) (.slice AC nC cC) (.slice AK nK cK)) := by rw [← hwb, ← hwa, ← hg0]; exact (RowAt.new w _ _).alloc _
  have R2 : RowAt wb (g0 + 1) 53 (cells8 (Deed.of 5) (.slice none 0 0) (.slice none 0 0) (.slice none 0 0)) := by rw [← hwb, ← hza]; exact RowAt.new wa _ _
  have HB := Lib.hid ((hB.below BB.out).more (show g0 ≤ wb.heap.size by omega))
  have HC := Lib.hid ((hC.below BB.out).more (show g0 ≤ wb.heap.size by omega))
  have HK := Lib.hid ((hK.below BB.out).more (show g0 ≤ wb.heap.size by omega))
  have lB : d.b.length = nB := by have := hB.1; rw [bytesV_length] at this; omega
  have lC : d.calls.length = nC := by have := hC.1; rw [intsV_length] at this; omega
  have lK : d.keep.length = nK := by have := hK.1; rw [boolsV_length] at this; omega
  have hnC : nC ≤ 1000000000 := by have := hd.lc; omega
  have hnK : nK ≤ 1000000000 := by have := hd.lk; omega
  have hcl : clean d = { Deed.of 5 with conn := d.conn, n := d.n } := by simp [clean, hk]
  have hrd : rightD d = sameD d (clean d) := by unfold rightD; rw [decide_eq_true (by omega : 0 ≤ d.kind ∧ d.kind ≤ 10)]; rfl
  have SM : Hid (∀ W, Same3 g0 wb W → Calls Try.prog 39 #[.agg #[.int .i64 5, .int .i64 d.conn, .int .i64 d.n, .slice AB nB cB, .slice AC nC cC, .slice AK nK cK, .int .i64 d.torn, .int .i64 d.part], .agg #[.int .i64 5, .int .i64 d.conn, .int .i64 d.n, .slice none 0 0, .slice none 0 0, .slice none 0 0, .int .i64 0, .int .i64 0]] W fun e w' => e = .returned (.bool (sameD d (clean d))) ∧ Below W.heap.size W w') := Lib.hid (fun W hW => by
    have HBx : SliceIn W W.heap.size 1 AB nB cB (bytesV d.b) := ((hB.below BB.out).keep fun p hp => hW.2 p hp).more (by have := hW.1; omega)
    have HCx : SliceIn W W.heap.size 1 AC nC cC (intsV d.calls) := ((hC.below BB.out).keep fun p hp => hW.2 p hp).more (by have := hW.1; omega)
    have HKx : SliceIn W W.heap.size 1 AK nK cK (boolsV d.keep) := ((hK.below BB.out).keep fun p hp => hW.2 p hp).more (by have := hW.1; omega)
    have h := refSame27_any d (clean d) AB AC AK none none none nB cB nC cC nK cK 0 0 0 0 0 0 W HBx HCx HKx (by rw [hcl]; exact SliceIn.none_ (by simp [maxLen])) (by rw [hcl]; exact SliceIn.none_ (by simp [maxLen])) (by rw [hcl]; exact SliceIn.none_ (by simp [maxLen])) ⟨hnC, hnK⟩
    rw [c8, c8, hk] at h
    rw [show (clean d).kind = 5 by simp [hcl, Deed.of], show (clean d).conn = d.conn by simp [hcl, Deed.of], show (clean d).n = d.n by simp [hcl, Deed.of], show (clean d).torn = 0 by simp [hcl, Deed.of], show (clean d).part = 0 by simp [hcl, Deed.of]] at h
    exact h)
  rw [hrd]
  rw [c8] at hwa hwb
  have c0 := R1.cell (j := 0) rfl
  have d0 := R2.cell (j := 0) rfl
  have c1 := R1.cell (j := 1) rfl
  have d1 := R2.cell (j := 1) rfl
  have c2 := R1.cell (j := 2) rfl
  have d2 := R2.cell (j := 2) rfl
  have c3 := R1.cell (j := 3) rfl
  have d3 := R2.cell (j := 3) rfl
  have c4 := R1.cell (j := 4) rfl
  have d4 := R2.cell (j := 4) rfl
  have c5 := R1.cell (j := 5) rfl
  have d5 := R2.cell (j := 5) rfl
  have c6 := R1.cell (j := 6) rfl
  have d6 := R2.cell (j := 6) rfl
  have c7 := R1.cell (j := 7) rfl
  have d7 := R2.cell (j := 7) rfl
  have f1 := R2.frozen (j := 1) (by show 1 < 8; omega)
  have f2 := R2.frozen (j := 2) (by show 2 < 8; omega)
  have ca0 : wa.cell? ⟨g0, 0, none⟩ = some (.int .i64 d.kind) := by rw [← hwa, ← hg0]; exact (RowAt.new w _ [.int .i64 d.kind, .int .i64 d.conn, .int .i64 d.n, .slice AB nB cB, .slice AC nC cC, .slice AK nK cK, .int .i64 d.torn, .int .i64 d.part]).cell (j := 0) rfl
  rw [hk] at c0 ca0 hwa ⊢
  have HR1 : Hid (RowAt wb g0 53 [.int .i64 5, .int .i64 d.conn, .int .i64 d.n, .slice AB nB cB, .slice AC nC cC, .slice AK nK cK, .int .i64 d.torn, .int .i64 d.part]) := Lib.hid (by rw [← hk]; exact R1)
  have HR2 : Hid (RowAt wb (g0 + 1) 53 [.int .i64 5, .int .i64 0, .int .i64 0, .slice none 0 0, .slice none 0 0, .slice none 0 0, .int .i64 0, .int .i64 0]) := Lib.hid R2
  rw [show (Deed.of 5).kind = 5 from rfl, show (Deed.of 5).conn = 0 from rfl, show (Deed.of 5).n = 0 from rfl, show (Deed.of 5).torn = 0 from rfl, show (Deed.of 5).part = 0 from rfl] at hwb
  rw [show (Deed.of 5).kind = 5 from rfl] at d0
  rw [show (Deed.of 5).conn = 0 from rfl] at d1
  rw [show (Deed.of 5).n = 0 from rfl] at d2
  rw [show (Deed.of 5).torn = 0 from rfl] at d6
  rw [show (Deed.of 5).part = 0 from rfl] at d7
  clear hrd hcl R1 R2 hB hC hK lB lC lK hd hk HB HC HK
  generalize sameD d (clean d) = sm at *
  generalize d.conn = xc at *
  generalize d.n = xn at *
  generalize d.torn = xt at *
  generalize d.part = xp at *
  have Hwb := Lib.hid hwb
  have Hza := Lib.hid hza
  have hgb : g0 + 2 ≤ wb.heap.size := by omega
  clear hwb hza hzb
  go_enter Try.func27, Try.ntmps27
  go_upto_region 4 with fail
  rw [Hwb.out, Hza.out]
  clear ca0
  go_upto_region 12 with fail
  go_region
  go_upto_region 20 with fail
  obtain ⟨wz, hwz⟩ : ∃ W, (wb.setCell ⟨g0 + 1, 1, none⟩ (.int .i64 xc)).setCell ⟨g0 + 1, 2, none⟩ (.int .i64 xn) = W := ⟨_, rfl⟩
  rw [hwz]
  have S3 : Hid (Same3 g0 wb wz) := Lib.hid (by rw [← hwz]; exact (Same3.set (Same3.set (Same3.refl g0 wb) (show g0 ≤ g0 + 1 by omega) 1 _) (show g0 ≤ g0 + 1 by omega) 2 _))
  have RX : RowAt wz (g0 + 1) 53 [.int .i64 5, .int .i64 xc, .int .i64 xn, .slice none 0 0, .slice none 0 0, .slice none 0 0, .int .i64 0, .int .i64 0] := by rw [← hwz]; exact ((HR2.out.set_ (j := 1) (by show 1 < 8; omega) (.int .i64 xc)).set_ (j := 2) (by show 2 < 8; omega) (.int .i64 xn))
  have OX : Hid (Below g0 w wz) := Lib.hid (by rw [← hwz]; exact ((BB.out.setCell (p := ⟨g0 + 1, 1, none⟩) (by show g0 ≤ g0 + 1; omega) _).setCell (p := ⟨g0 + 1, 2, none⟩) (by show g0 ≤ g0 + 1; omega) _))
  have S3d : Hid (Same3 g0 wb (wz.drewN 1)) := Lib.hid S3.out
  clear c0 d0 c1 d1 c2 d2 c3 d3 c4 d4 c5 d5 c6 d6 c7 d7 f1 f2
  have RZ : RowAt wz g0 53 [.int .i64 5, .int .i64 xc, .int .i64 xn, .slice AB nB cB, .slice AC nC cC, .slice AK nK cK, .int .i64 xt, .int .i64 xp] := by rw [← hwz]; exact ((HR1.out.far (p := ⟨g0 + 1, 1, none⟩) (by show g0 ≠ g0 + 1; omega) _).far (p := ⟨g0 + 1, 2, none⟩) (by show g0 ≠ g0 + 1; omega) _)
  have u0 := RZ.cell (j := 0) rfl
  have v0 := RX.cell (j := 0) rfl
  have u1 := RZ.cell (j := 1) rfl
  have v1 := RX.cell (j := 1) rfl
  have u2 := RZ.cell (j := 2) rfl
  have v2 := RX.cell (j := 2) rfl
  have u3 := RZ.cell (j := 3) rfl
  have v3 := RX.cell (j := 3) rfl
  have u4 := RZ.cell (j := 4) rfl
  have v4 := RX.cell (j := 4) rfl
  have u5 := RZ.cell (j := 5) rfl
  have v5 := RX.cell (j := 5) rfl
  have u6 := RZ.cell (j := 6) rfl
  have v6 := RX.cell (j := 6) rfl
  have u7 := RZ.cell (j := 7) rfl
  have v7 := RX.cell (j := 7) rfl
  clear RZ RX HR1 HR2 hwz
  go_wp2_with (go_at_call 39; refine (SM.out _ S3d.out).mono ?_; rintro e w8 ⟨rfl, hb8⟩)
  go_ret
  exact ⟨rfl, (below_drewN OX.out 1).trans (hb8.mono (by have := S3.out.1; show g0 ≤ wz.heap.size; omega))⟩
set_option maxHeartbeats 4000000 in
theorem refRight27_k6 (d : Deed) (AB AC AK : Option Addr) (nB cB nC cC nK cK : Nat) (w : World) (hk : d.kind = 6)
    (hB : SliceIn w w.heap.size 1 AB nB cB (bytesV d.b)) (hC : SliceIn w w.heap.size 1 AC nC cC (intsV d.calls)) (hK : SliceIn w w.heap.size 1 AK nK cK (boolsV d.keep)) (hd : DeedN d) :
    Calls Try.prog 27 #[.agg (cells8 d (.slice AB nB cB) (.slice AC nC cC) (.slice AK nK cK)).toArray] w fun e w' => e = .returned (.bool (rightD d)) ∧ Below w.heap.size w w' := by
  rw [c8]
  obtain ⟨g0, hg0⟩ : ∃ g0, w.heap.size = g0 := ⟨_, rfl⟩
  obtain ⟨wa, hwa⟩ : ∃ wa, w.alloc (.cells (cells8 d (.slice AB nB cB) (.slice AC nC cC) (.slice AK nK cK)).toArray 53) = wa := ⟨_, rfl⟩
  obtain ⟨wb, hwb⟩ : ∃ wb, wa.alloc (.cells (cells8 (Deed.of 6) (.slice none 0 0) (.slice none 0 0) (.slice none 0 0)).toArray 53) = wb := ⟨_, rfl⟩
  rw [hg0]
  rw [hg0] at hB hC hK
  have hza : wa.heap.size = g0 + 1 := by rw [← hwa]; simp [hg0]
  have hzb : wb.heap.size = g0 + 2 := by rw [← hwb]; simp [hza]
  have BB : Hid (Below g0 w wb) := Lib.hid (by rw [← hwb, ← hwa]; exact ((Below.refl _ _).alloc (by omega) _).alloc (by simp; omega) _)
  have R1 : RowAt wb g0 53 (cells8 d (.slice AB nB cB) (.slice AC nC cC) (.slice AK nK cK)) := by rw [← hwb, ← hwa, ← hg0]; exact (RowAt.new w _ _).alloc _
  have R2 : RowAt wb (g0 + 1) 53 (cells8 (Deed.of 6) (.slice none 0 0) (.slice none 0 0) (.slice none 0 0)) := by rw [← hwb, ← hza]; exact RowAt.new wa _ _
  have HB := Lib.hid ((hB.below BB.out).more (show g0 ≤ wb.heap.size by omega))
  have HC := Lib.hid ((hC.below BB.out).more (show g0 ≤ wb.heap.size by omega))
  have HK := Lib.hid ((hK.below BB.out).more (show g0 ≤ wb.heap.size by omega))
  have lB : d.b.length = nB := by have := hB.1; rw [bytesV_length] at this; omega
  have lC : d.calls.length = nC := by have := hC.1; rw [intsV_length] at this; omega
  have lK : d.keep.length = nK := by have := hK.1; rw [boolsV_length] at this; omega
  have hnC : nC ≤ 1000000000 := by have := hd.lc; omega
  have hnK : nK ≤ 1000000000 := by have := hd.lk; omega
  have hcl : clean d = { Deed.of 6 with n := d.n } := by simp [clean, hk]
  have hrd : rightD d = sameD d (clean d) := by unfold rightD; rw [decide_eq_true (by omega : 0 ≤ d.kind ∧ d.kind ≤ 10)]; rfl
  have SM : Hid (∀ W, Same3 g0 wb W → Calls Try.prog 39 #[.agg #[.int .i64 6, .int .i64 d.conn, .int .i64 d.n, .slice AB nB cB, .slice AC nC cC, .slice AK nK cK, .int .i64 d.torn, .int .i64 d.part], .agg #[.int .i64 6, .int .i64 0, .int .i64 d.n, .slice none 0 0, .slice none 0 0, .slice none 0 0, .int .i64 0, .int .i64 0]] W fun e w' => e = .returned (.bool (sameD d (clean d))) ∧ Below W.heap.size W w') := Lib.hid (fun W hW => by
    have HBx : SliceIn W W.heap.size 1 AB nB cB (bytesV d.b) := ((hB.below BB.out).keep fun p hp => hW.2 p hp).more (by have := hW.1; omega)
    have HCx : SliceIn W W.heap.size 1 AC nC cC (intsV d.calls) := ((hC.below BB.out).keep fun p hp => hW.2 p hp).more (by have := hW.1; omega)
    have HKx : SliceIn W W.heap.size 1 AK nK cK (boolsV d.keep) := ((hK.below BB.out).keep fun p hp => hW.2 p hp).more (by have := hW.1; omega)
    have h := refSame27_any d (clean d) AB AC AK none none none nB cB nC cC nK cK 0 0 0 0 0 0 W HBx HCx HKx (by rw [hcl]; exact SliceIn.none_ (by simp [maxLen])) (by rw [hcl]; exact SliceIn.none_ (by simp [maxLen])) (by rw [hcl]; exact SliceIn.none_ (by simp [maxLen])) ⟨hnC, hnK⟩
    rw [c8, c8, hk] at h
    rw [show (clean d).kind = 6 by simp [hcl, Deed.of], show (clean d).conn = 0 by simp [hcl, Deed.of], show (clean d).n = d.n by simp [hcl, Deed.of], show (clean d).torn = 0 by simp [hcl, Deed.of], show (clean d).part = 0 by simp [hcl, Deed.of]] at h
    exact h)
  rw [hrd]
  rw [c8] at hwa hwb
  have c0 := R1.cell (j := 0) rfl
  have d0 := R2.cell (j := 0) rfl
  have c1 := R1.cell (j := 1) rfl
  have d1 := R2.cell (j := 1) rfl
  have c2 := R1.cell (j := 2) rfl
  have d2 := R2.cell (j := 2) rfl
  have c3 := R1.cell (j := 3) rfl
  have d3 := R2.cell (j := 3) rfl
  have c4 := R1.cell (j := 4) rfl
  have d4 := R2.cell (j := 4) rfl
  have c5 := R1.cell (j := 5) rfl
  have d5 := R2.cell (j := 5) rfl
  have c6 := R1.cell (j := 6) rfl
  have d6 := R2.cell (j := 6) rfl
  have c7 := R1.cell (j := 7) rfl
  have d7 := R2.cell (j := 7) rfl
  have f2 := R2.frozen (j := 2) (by show 2 < 8; omega)
  have ca0 : wa.cell? ⟨g0, 0, none⟩ = some (.int .i64 d.kind) := by rw [← hwa, ← hg0]; exact (RowAt.new w _ [.int .i64 d.kind, .int .i64 d.conn, .int .i64 d.n, .slice AB nB cB, .slice AC nC cC, .slice AK nK cK, .int .i64 d.torn, .int .i64 d.part]).cell (j := 0) rfl
  rw [hk] at c0 ca0 hwa ⊢
  have HR1 : Hid (RowAt wb g0 53 [.int .i64 6, .int .i64 d.conn, .int .i64 d.n, .slice AB nB cB, .slice AC nC cC, .slice AK nK cK, .int .i64 d.torn, .int .i64 d.part]) := Lib.hid (by rw [← hk]; exact R1)
  have HR2 : Hid (RowAt wb (g0 + 1) 53 [.int .i64 6, .int .i64 0, .int .i64 0, .slice none 0 0, .slice none 0 0, .slice none 0 0, .int .i64 0, .int .i64 0]) := Lib.hid R2
  rw [show (Deed.of 6).kind = 6 from rfl, show (Deed.of 6).conn = 0 from rfl, show (Deed.of 6).n = 0 from rfl, show (Deed.of 6).torn = 0 from rfl, show (Deed.of 6).part = 0 from rfl] at hwb
  rw [show (Deed.of 6).kind = 6 from rfl] at d0
  rw [show (Deed.of 6).conn = 0 from rfl] at d1
  rw [show (Deed.of 6).n = 0 from rfl] at d2
  rw [show (Deed.of 6).torn = 0 from rfl] at d6
  rw [show (Deed.of 6).part = 0 from rfl] at d7
  clear hrd hcl R1 R2 hB hC hK lB lC lK hd hk HB HC HK
  generalize sameD d (clean d) = sm at *
  generalize d.conn = xc at *
  generalize d.n = xn at *
  generalize d.torn = xt at *
  generalize d.part = xp at *
  have Hwb := Lib.hid hwb
  have Hza := Lib.hid hza
  have hgb : g0 + 2 ≤ wb.heap.size := by omega
  clear hwb hza hzb
  go_enter Try.func27, Try.ntmps27
  go_upto_region 4 with fail
  rw [Hwb.out, Hza.out]
  clear ca0
  go_upto_region 15 with fail
  go_upto_region 20 with fail
  obtain ⟨wz, hwz⟩ : ∃ W, wb.setCell ⟨g0 + 1, 2, none⟩ (.int .i64 xn) = W := ⟨_, rfl⟩
  rw [hwz]
  have S3 : Hid (Same3 g0 wb wz) := Lib.hid (by rw [← hwz]; exact (Same3.set (Same3.refl g0 wb) (show g0 ≤ g0 + 1 by omega) 2 _))
  have RX : RowAt wz (g0 + 1) 53 [.int .i64 6, .int .i64 0, .int .i64 xn, .slice none 0 0, .slice none 0 0, .slice none 0 0, .int .i64 0, .int .i64 0] := by rw [← hwz]; exact (HR2.out.set_ (j := 2) (by show 2 < 8; omega) (.int .i64 xn))
  have OX : Hid (Below g0 w wz) := Lib.hid (by rw [← hwz]; exact (BB.out.setCell (p := ⟨g0 + 1, 2, none⟩) (by show g0 ≤ g0 + 1; omega) _))
  clear c0 d0 c1 d1 c2 d2 c3 d3 c4 d4 c5 d5 c6 d6 c7 d7 f2
  have RZ : RowAt wz g0 53 [.int .i64 6, .int .i64 xc, .int .i64 xn, .slice AB nB cB, .slice AC nC cC, .slice AK nK cK, .int .i64 xt, .int .i64 xp] := by rw [← hwz]; exact (HR1.out.far (p := ⟨g0 + 1, 2, none⟩) (by show g0 ≠ g0 + 1; omega) _)
  have u0 := RZ.cell (j := 0) rfl
  have v0 := RX.cell (j := 0) rfl
  have u1 := RZ.cell (j := 1) rfl
  have v1 := RX.cell (j := 1) rfl
  have u2 := RZ.cell (j := 2) rfl
  have v2 := RX.cell (j := 2) rfl
  have u3 := RZ.cell (j := 3) rfl
  have v3 := RX.cell (j := 3) rfl
  have u4 := RZ.cell (j := 4) rfl
  have v4 := RX.cell (j := 4) rfl
  have u5 := RZ.cell (j := 5) rfl
  have v5 := RX.cell (j := 5) rfl
  have u6 := RZ.cell (j := 6) rfl
  have v6 := RX.cell (j := 6) rfl
  have u7 := RZ.cell (j := 7) rfl
  have v7 := RX.cell (j := 7) rfl
  clear RZ RX HR1 HR2 hwz
  go_wp2_with (go_at_call 39; refine (SM.out _ S3.out).mono ?_; rintro e w8 ⟨rfl, hb8⟩)
  go_ret
  exact ⟨rfl, OX.out.trans (hb8.mono (by have := S3.out.1; omega))⟩
set_option maxHeartbeats 4000000 in
theorem refRight27_k8 (d : Deed) (AB AC AK : Option Addr) (nB cB nC cC nK cK : Nat) (w : World) (hk : d.kind = 8)
    (hB : SliceIn w w.heap.size 1 AB nB cB (bytesV d.b)) (hC : SliceIn w w.heap.size 1 AC nC cC (intsV d.calls)) (hK : SliceIn w w.heap.size 1 AK nK cK (boolsV d.keep)) (hd : DeedN d) :
    Calls Try.prog 27 #[.agg (cells8 d (.slice AB nB cB) (.slice AC nC cC) (.slice AK nK cK)).toArray] w fun e w' => e = .returned (.bool (rightD d)) ∧ Below w.heap.size w w' := by
  rw [c8]
  obtain ⟨g0, hg0⟩ : ∃ g0, w.heap.size = g0 := ⟨_, rfl⟩
  obtain ⟨wa, hwa⟩ : ∃ wa, w.alloc (.cells (cells8 d (.slice AB nB cB) (.slice AC nC cC) (.slice AK nK cK)).toArray 53) = wa := ⟨_, rfl⟩
  obtain ⟨wb, hwb⟩ : ∃ wb, wa.alloc (.cells (cells8 (Deed.of 8) (.slice none 0 0) (.slice none 0 0) (.slice none 0 0)).toArray 53) = wb := ⟨_, rfl⟩
  rw [hg0]
  rw [hg0] at hB hC hK
  have hza : wa.heap.size = g0 + 1 := by rw [← hwa]; simp [hg0]
  have hzb : wb.heap.size = g0 + 2 := by rw [← hwb]; simp [hza]
  have BB : Hid (Below g0 w wb) := Lib.hid (by rw [← hwb, ← hwa]; exact ((Below.refl _ _).alloc (by omega) _).alloc (by simp; omega) _)
  have R1 : RowAt wb g0 53 (cells8 d (.slice AB nB cB) (.slice AC nC cC) (.slice AK nK cK)) := by rw [← hwb, ← hwa, ← hg0]; exact (RowAt.new w _ _).alloc _
  have R2 : RowAt wb (g0 + 1) 53 (cells8 (Deed.of 8) (.slice none 0 0) (.slice none 0 0) (.slice none 0 0)) := by rw [← hwb, ← hza]; exact RowAt.new wa _ _
  have HB := Lib.hid ((hB.below BB.out).more (show g0 ≤ wb.heap.size by omega))
  have HC := Lib.hid ((hC.below BB.out).more (show g0 ≤ wb.heap.size by omega))
  have HK := Lib.hid ((hK.below BB.out).more (show g0 ≤ wb.heap.size by omega))
  have lB : d.b.length = nB := by have := hB.1; rw [bytesV_length] at this; omega
  have lC : d.calls.length = nC := by have := hC.1; rw [intsV_length] at this; omega
  have lK : d.keep.length = nK := by have := hK.1; rw [boolsV_length] at this; omega
  have hnC : nC ≤ 1000000000 := by have := hd.lc; omega
  have hnK : nK ≤ 1000000000 := by have := hd.lk; omega
  have hcl : clean d = { Deed.of 8 with n := d.n } := by simp [clean, hk]
  have hrd : rightD d = sameD d (clean d) := by unfold rightD; rw [decide_eq_true (by omega : 0 ≤ d.kind ∧ d.kind ≤ 10)]; rfl
  have SM : Hid (∀ W, Same3 g0 wb W → Calls Try.prog 39 #[.agg #[.int .i64 8, .int .i64 d.conn, .int .i64 d.n, .slice AB nB cB, .slice AC nC cC, .slice AK nK cK, .int .i64 d.torn, .int .i64 d.part], .agg #[.int .i64 8, .int .i64 0, .int .i64 d.n, .slice none 0 0, .slice none 0 0, .slice none 0 0, .int .i64 0, .int .i64 0]] W fun e w' => e = .returned (.bool (sameD d (clean d))) ∧ Below W.heap.size W w') := Lib.hid (fun W hW => by
    have HBx : SliceIn W W.heap.size 1 AB nB cB (bytesV d.b) := ((hB.below BB.out).keep fun p hp => hW.2 p hp).more (by have := hW.1; omega)
    have HCx : SliceIn W W.heap.size 1 AC nC cC (intsV d.calls) := ((hC.below BB.out).keep fun p hp => hW.2 p hp).more (by have := hW.1; omega)
    have HKx : SliceIn W W.heap.size 1 AK nK cK (boolsV d.keep) := ((hK.below BB.out).keep fun p hp => hW.2 p hp).more (by have := hW.1; omega)
    have h := refSame27_any d (clean d) AB AC AK none none none nB cB nC cC nK cK 0 0 0 0 0 0 W HBx HCx HKx (by rw [hcl]; exact SliceIn.none_ (by simp [maxLen])) (by rw [hcl]; exact SliceIn.none_ (by simp [maxLen])) (by rw [hcl]; exact SliceIn.none_ (by simp [maxLen])) ⟨hnC, hnK⟩
    rw [c8, c8, hk] at h
    rw [show (clean d).kind = 8 by simp [hcl, Deed.of], show (clean d).conn = 0 by simp [hcl, Deed.of], show (clean d).n = d.n by simp [hcl, Deed.of], show (clean d).torn = 0 by simp [hcl, Deed.of], show (clean d).part = 0 by simp [hcl, Deed.of]] at h
    exact h)
  rw [hrd]
  rw [c8] at hwa hwb
  have c0 := R1.cell (j := 0) rfl
  have d0 := R2.cell (j := 0) rfl
  have c1 := R1.cell (j := 1) rfl
  have d1 := R2.cell (j := 1) rfl
  have c2 := R1.cell (j := 2) rfl
  have d2 := R2.cell (j := 2) rfl
  have c3 := R1.cell (j := 3) rfl
  have d3 := R2.cell (j := 3) rfl
  have c4 := R1.cell (j := 4) rfl
  have d4 := R2.cell (j := 4) rfl
  have c5 := R1.cell (j := 5) rfl
  have d5 := R2.cell (j := 5) rfl
  have c6 := R1.cell (j := 6) rfl
  have d6 := R2.cell (j := 6) rfl
  have c7 := R1.cell (j := 7) rfl
  have d7 := R2.cell (j := 7) rfl
  have f2 := R2.frozen (j := 2) (by show 2 < 8; omega)
  have ca0 : wa.cell? ⟨g0, 0, none⟩ = some (.int .i64 d.kind) := by rw [← hwa, ← hg0]; exact (RowAt.new w _ [.int .i64 d.kind, .int .i64 d.conn, .int .i64 d.n, .slice AB nB cB, .slice AC nC cC, .slice AK nK cK, .int .i64 d.torn, .int .i64 d.part]).cell (j := 0) rfl
  rw [hk] at c0 ca0 hwa ⊢
  have HR1 : Hid (RowAt wb g0 53 [.int .i64 8, .int .i64 d.conn, .int .i64 d.n, .slice AB nB cB, .slice AC nC cC, .slice AK nK cK, .int .i64 d.torn, .int .i64 d.part]) := Lib.hid (by rw [← hk]; exact R1)
  have HR2 : Hid (RowAt wb (g0 + 1) 53 [.int .i64 8, .int .i64 0, .int .i64 0, .slice none 0 0, .slice none 0 0, .slice none 0 0, .int .i64 0, .int .i64 0]) := Lib.hid R2
  rw [show (Deed.of 8).kind = 8 from rfl, show (Deed.of 8).conn = 0 from rfl, show (Deed.of 8).n = 0 from rfl, show (Deed.of 8).torn = 0 from rfl, show (Deed.of 8).part = 0 from rfl] at hwb
  rw [show (Deed.of 8).kind = 8 from rfl] at d0
  rw [show (Deed.of 8).conn = 0 from rfl] at d1
  rw [show (Deed.of 8).n = 0 from rfl] at d2
  rw [show (Deed.of 8).torn = 0 from rfl] at d6
  rw [show (Deed.of 8).part = 0 from rfl] at d7
  clear hrd hcl R1 R2 hB hC hK lB lC lK hd hk HB HC HK
  generalize sameD d (clean d) = sm at *
  generalize d.conn = xc at *
  generalize d.n = xn at *
  generalize d.torn = xt at *
  generalize d.part = xp at *
  have Hwb := Lib.hid hwb
  have Hza := Lib.hid hza
  have hgb : g0 + 2 ≤ wb.heap.size := by omega
  clear hwb hza hzb
  go_enter Try.func27, Try.ntmps27
  go_upto_region 4 with fail
  rw [Hwb.out, Hza.out]
  clear ca0
  go_upto_region 15 with fail
  go_upto_region 20 with fail
  obtain ⟨wz, hwz⟩ : ∃ W, wb.setCell ⟨g0 + 1, 2, none⟩ (.int .i64 xn) = W := ⟨_, rfl⟩
  rw [hwz]
  have S3 : Hid (Same3 g0 wb wz) := Lib.hid (by rw [← hwz]; exact (Same3.set (Same3.refl g0 wb) (show g0 ≤ g0 + 1 by omega) 2 _))
  have RX : RowAt wz (g0 + 1) 53 [.int .i64 8, .int .i64 0, .int .i64 xn, .slice none 0 0, .slice none 0 0, .slice none 0 0, .int .i64 0, .int .i64 0] := by rw [← hwz]; exact (HR2.out.set_ (j := 2) (by show 2 < 8; omega) (.int .i64 xn))
  have OX : Hid (Below g0 w wz) := Lib.hid (by rw [← hwz]; exact (BB.out.setCell (p := ⟨g0 + 1, 2, none⟩) (by show g0 ≤ g0 + 1; omega) _))
  clear c0 d0 c1 d1 c2 d2 c3 d3 c4 d4 c5 d5 c6 d6 c7 d7 f2
  have RZ : RowAt wz g0 53 [.int .i64 8, .int .i64 xc, .int .i64 xn, .slice AB nB cB, .slice AC nC cC, .slice AK nK cK, .int .i64 xt, .int .i64 xp] := by rw [← hwz]; exact (HR1.out.far (p := ⟨g0 + 1, 2, none⟩) (by show g0 ≠ g0 + 1; omega) _)
  have u0 := RZ.cell (j := 0) rfl
  have v0 := RX.cell (j := 0) rfl
  have u1 := RZ.cell (j := 1) rfl
  have v1 := RX.cell (j := 1) rfl
  have u2 := RZ.cell (j := 2) rfl
  have v2 := RX.cell (j := 2) rfl
  have u3 := RZ.cell (j := 3) rfl
  have v3 := RX.cell (j := 3) rfl
  have u4 := RZ.cell (j := 4) rfl
  have v4 := RX.cell (j := 4) rfl
  have u5 := RZ.cell (j := 5) rfl
  have v5 := RX.cell (j := 5) rfl
  have u6 := RZ.cell (j := 6) rfl
  have v6 := RX.cell (j := 6) rfl
  have u7 := RZ.cell (j := 7) rfl
  have v7 := RX.cell (j := 7) rfl
  clear RZ RX HR1 HR2 hwz
  go_wp2_with (go_at_call 39; refine (SM.out _ S3.out).mono ?_; rintro e w8 ⟨rfl, hb8⟩)
  go_ret
  exact ⟨rfl, OX.out.trans (hb8.mono (by have := S3.out.1; omega))⟩
set_option maxHeartbeats 4000000 in
theorem refRight27_k7 (d : Deed) (AB AC AK : Option Addr) (nB cB nC cC nK cK : Nat) (w : World) (hk : d.kind = 7)
    (hB : SliceIn w w.heap.size 1 AB nB cB (bytesV d.b)) (hC : SliceIn w w.heap.size 1 AC nC cC (intsV d.calls)) (hK : SliceIn w w.heap.size 1 AK nK cK (boolsV d.keep)) (hd : DeedN d) :
    Calls Try.prog 27 #[.agg (cells8 d (.slice AB nB cB) (.slice AC nC cC) (.slice AK nK cK)).toArray] w fun e w' => e = .returned (.bool (rightD d)) ∧ Below w.heap.size w w' := by
  rw [c8]
  obtain ⟨g0, hg0⟩ : ∃ g0, w.heap.size = g0 := ⟨_, rfl⟩
  obtain ⟨wa, hwa⟩ : ∃ wa, w.alloc (.cells (cells8 d (.slice AB nB cB) (.slice AC nC cC) (.slice AK nK cK)).toArray 53) = wa := ⟨_, rfl⟩
  obtain ⟨wb, hwb⟩ : ∃ wb, wa.alloc (.cells (cells8 (Deed.of 7) (.slice none 0 0) (.slice none 0 0) (.slice none 0 0)).toArray 53) = wb := ⟨_, rfl⟩
  rw [hg0]
  rw [hg0] at hB hC hK
  have hza : wa.heap.size = g0 + 1 := by rw [← hwa]; simp [hg0]
  have hzb : wb.heap.size = g0 + 2 := by rw [← hwb]; simp [hza]
  have BB : Hid (Below g0 w wb) := Lib.hid (by rw [← hwb, ← hwa]; exact ((Below.refl _ _).alloc (by omega) _).alloc (by simp; omega) _)
  have R1 : RowAt wb g0 53 (cells8 d (.slice AB nB cB) (.slice AC nC cC) (.slice AK nK cK)) := by rw [← hwb, ← hwa, ← hg0]; exact (RowAt.new w _ _).alloc _
  have R2 : RowAt wb (g0 + 1) 53 (cells8 (Deed.of 7) (.slice none 0 0) (.slice none 0 0) (.slice none 0 0)) := by rw [← hwb, ← hza]; exact RowAt.new wa _ _
  have HB := Lib.hid ((hB.below BB.out).more (show g0 ≤ wb.heap.size by omega))
  have HC := Lib.hid ((hC.below BB.out).more (show g0 ≤ wb.heap.size by omega))
  have HK := Lib.hid ((hK.below BB.out).more (show g0 ≤ wb.heap.size by omega))
  have lB : d.b.length = nB := by have := hB.1; rw [bytesV_length] at this; omega
  have lC : d.calls.length = nC := by have := hC.1; rw [intsV_length] at this; omega
  have lK : d.keep.length = nK := by have := hK.1; rw [boolsV_length] at this; omega
  have hnC : nC ≤ 1000000000 := by have := hd.lc; omega
  have hnK : nK ≤ 1000000000 := by have := hd.lk; omega
  have hcl : clean d = { Deed.of 7 with calls := d.calls } := by simp [clean, hk]
  have hrd : rightD d = sameD d (clean d) := by unfold rightD; rw [decide_eq_true (by omega : 0 ≤ d.kind ∧ d.kind ≤ 10)]; rfl
  have SM : Hid (∀ W, Same3 g0 wb W → Calls Try.prog 39 #[.agg #[.int .i64 7, .int .i64 d.conn, .int .i64 d.n, .slice AB nB cB, .slice AC nC cC, .slice AK nK cK, .int .i64 d.torn, .int .i64 d.part], .agg #[.int .i64 7, .int .i64 0, .int .i64 0, .slice none 0 0, .slice AC nC cC, .slice none 0 0, .int .i64 0, .int .i64 0]] W fun e w' => e = .returned (.bool (sameD d (clean d))) ∧ Below W.heap.size W w') := Lib.hid (fun W hW => by
    have HBx : SliceIn W W.heap.size 1 AB nB cB (bytesV d.b) := ((hB.below BB.out).keep fun p hp => hW.2 p hp).more (by have := hW.1; omega)
    have HCx : SliceIn W W.heap.size 1 AC nC cC (intsV d.calls) := ((hC.below BB.out).keep fun p hp => hW.2 p hp).more (by have := hW.1; omega)
    have HKx : SliceIn W W.heap.size 1 AK nK cK (boolsV d.keep) := ((hK.below BB.out).keep fun p hp => hW.2 p hp).more (by have := hW.1; omega)
    have h := refSame27_any d (clean d) AB AC AK none AC none nB cB nC cC nK cK 0 0 nC cC 0 0 W HBx HCx HKx (by rw [hcl]; exact SliceIn.none_ (by simp [maxLen])) (by rw [hcl]; exact HCx) (by rw [hcl]; exact SliceIn.none_ (by simp [maxLen])) ⟨hnC, hnK⟩
    rw [c8, c8, hk] at h
    rw [show (clean d).kind = 7 by simp [hcl, Deed.of], show (clean d).conn = 0 by simp [hcl, Deed.of], show (clean d).n = 0 by simp [hcl, Deed.of], show (clean d).torn = 0 by simp [hcl, Deed.of], show (clean d).part = 0 by simp [hcl, Deed.of]] at h
    exact h)
  rw [hrd]
  rw [c8] at hwa hwb
  have c0 := R1.cell (j := 0) rfl
  have d0 := R2.cell (j := 0) rfl
  have c1 := R1.cell (j := 1) rfl
  have d1 := R2.cell (j := 1) rfl
  have c2 := R1.cell (j := 2) rfl
  have d2 := R2.cell (j := 2) rfl
  have c3 := R1.cell (j := 3) rfl
  have d3 := R2.cell (j := 3) rfl
  have c4 := R1.cell (j := 4) rfl
  have d4 := R2.cell (j := 4) rfl
  have c5 := R1.cell (j := 5) rfl
  have d5 := R2.cell (j := 5) rfl
  have c6 := R1.cell (j := 6) rfl
  have d6 := R2.cell (j := 6) rfl
  have c7 := R1.cell (j := 7) rfl
  have d7 := R2.cell (j := 7) rfl
  have f4 := R2.frozen (j := 4) (by show 4 < 8; omega)
  have ca0 : wa.cell? ⟨g0, 0, none⟩ = some (.int .i64 d.kind) := by rw [← hwa, ← hg0]; exact (RowAt.new w _ [.int .i64 d.kind, .int .i64 d.conn, .int .i64 d.n, .slice AB nB cB, .slice AC nC cC, .slice AK nK cK, .int .i64 d.torn, .int .i64 d.part]).cell (j := 0) rfl
  rw [hk] at c0 ca0 hwa ⊢
  have HR1 : Hid (RowAt wb g0 53 [.int .i64 7, .int .i64 d.conn, .int .i64 d.n, .slice AB nB cB, .slice AC nC cC, .slice AK nK cK, .int .i64 d.torn, .int .i64 d.part]) := Lib.hid (by rw [← hk]; exact R1)
  have HR2 : Hid (RowAt wb (g0 + 1) 53 [.int .i64 7, .int .i64 0, .int .i64 0, .slice none 0 0, .slice none 0 0, .slice none 0 0, .int .i64 0, .int .i64 0]) := Lib.hid R2
  rw [show (Deed.of 7).kind = 7 from rfl, show (Deed.of 7).conn = 0 from rfl, show (Deed.of 7).n = 0 from rfl, show (Deed.of 7).torn = 0 from rfl, show (Deed.of 7).part = 0 from rfl] at hwb
  rw [show (Deed.of 7).kind = 7 from rfl] at d0
  rw [show (Deed.of 7).conn = 0 from rfl] at d1
  rw [show (Deed.of 7).n = 0 from rfl] at d2
  rw [show (Deed.of 7).torn = 0 from rfl] at d6
  rw [show (Deed.of 7).part = 0 from rfl] at d7
  clear hrd hcl R1 R2 hB hC hK lB lC lK hd hk HB HC HK
  generalize sameD d (clean d) = sm at *
  generalize d.conn = xc at *
  generalize d.n = xn at *
  generalize d.torn = xt at *
  generalize d.part = xp at *
  have Hwb := Lib.hid hwb
  have Hza := Lib.hid hza
  have hgb : g0 + 2 ≤ wb.heap.size := by omega
  clear hwb hza hzb
  go_enter Try.func27, Try.ntmps27
  go_upto_region 4 with fail
  rw [Hwb.out, Hza.out]
  clear ca0
  go_upto_region 17 with fail
  go_upto_region 20 with fail
  obtain ⟨wz, hwz⟩ : ∃ W, wb.setCell ⟨g0 + 1, 4, none⟩ (.slice AC nC cC) = W := ⟨_, rfl⟩
  rw [hwz]
  have S3 : Hid (Same3 g0 wb wz) := Lib.hid (by rw [← hwz]; exact (Same3.set (Same3.refl g0 wb) (show g0 ≤ g0 + 1 by omega) 4 _))
  have RX : RowAt wz (g0 + 1) 53 [.int .i64 7, .int .i64 0, .int .i64 0, .slice none 0 0, .slice AC nC cC, .slice none 0 0, .int .i64 0, .int .i64 0] := by rw [← hwz]; exact (HR2.out.set_ (j := 4) (by show 4 < 8; omega) (.slice AC nC cC))
  have OX : Hid (Below g0 w wz) := Lib.hid (by rw [← hwz]; exact (BB.out.setCell (p := ⟨g0 + 1, 4, none⟩) (by show g0 ≤ g0 + 1; omega) _))
  clear c0 d0 c1 d1 c2 d2 c3 d3 c4 d4 c5 d5 c6 d6 c7 d7 f4
  have RZ : RowAt wz g0 53 [.int .i64 7, .int .i64 xc, .int .i64 xn, .slice AB nB cB, .slice AC nC cC, .slice AK nK cK, .int .i64 xt, .int .i64 xp] := by rw [← hwz]; exact (HR1.out.far (p := ⟨g0 + 1, 4, none⟩) (by show g0 ≠ g0 + 1; omega) _)
  have u0 := RZ.cell (j := 0) rfl
  have v0 := RX.cell (j := 0) rfl
  have u1 := RZ.cell (j := 1) rfl
  have v1 := RX.cell (j := 1) rfl
  have u2 := RZ.cell (j := 2) rfl
  have v2 := RX.cell (j := 2) rfl
  have u3 := RZ.cell (j := 3) rfl
  have v3 := RX.cell (j := 3) rfl
  have u4 := RZ.cell (j := 4) rfl
  have v4 := RX.cell (j := 4) rfl
  have u5 := RZ.cell (j := 5) rfl
  have v5 := RX.cell (j := 5) rfl
  have u6 := RZ.cell (j := 6) rfl
  have v6 := RX.cell (j := 6) rfl
  have u7 := RZ.cell (j := 7) rfl
  have v7 := RX.cell (j := 7) rfl
  clear RZ RX HR1 HR2 hwz
  go_wp2_with (go_at_call 39; refine (SM.out _ S3.out).mono ?_; rintro e w8 ⟨rfl, hb8⟩)
  go_ret
  exact ⟨rfl, OX.out.trans (hb8.mono (by have := S3.out.1; omega))⟩
set_option maxHeartbeats 4000000 in
theorem refRight27_k9 (d : Deed) (AB AC AK : Option Addr) (nB cB nC cC nK cK : Nat) (w : World) (hk : d.kind = 9)
    (hB : SliceIn w w.heap.size 1 AB nB cB (bytesV d.b)) (hC : SliceIn w w.heap.size 1 AC nC cC (intsV d.calls)) (hK : SliceIn w w.heap.size 1 AK nK cK (boolsV d.keep)) (hd : DeedN d) :
    Calls Try.prog 27 #[.agg (cells8 d (.slice AB nB cB) (.slice AC nC cC) (.slice AK nK cK)).toArray] w fun e w' => e = .returned (.bool (rightD d)) ∧ Below w.heap.size w w' := by
  rw [c8]
  obtain ⟨g0, hg0⟩ : ∃ g0, w.heap.size = g0 := ⟨_, rfl⟩
  obtain ⟨wa, hwa⟩ : ∃ wa, w.alloc (.cells (cells8 d (.slice AB nB cB) (.slice AC nC cC) (.slice AK nK cK)).toArray 53) = wa := ⟨_, rfl⟩
  obtain ⟨wb, hwb⟩ : ∃ wb, wa.alloc (.cells (cells8 (Deed.of 9) (.slice none 0 0) (.slice none 0 0) (.slice none 0 0)).toArray 53) = wb := ⟨_, rfl⟩
  rw [hg0]
  rw [hg0] at hB hC hK
  have hza : wa.heap.size = g0 + 1 := by rw [← hwa]; simp [hg0]
  have hzb : wb.heap.size = g0 + 2 := by rw [← hwb]; simp [hza]
  have BB : Hid (Below g0 w wb) := Lib.hid (by rw [← hwb, ← hwa]; exact ((Below.refl _ _).alloc (by omega) _).alloc (by simp; omega) _)
  have R1 : RowAt wb g0 53 (cells8 d (.slice AB nB cB) (.slice AC nC cC) (.slice AK nK cK)) := by rw [← hwb, ← hwa, ← hg0]; exact (RowAt.new w _ _).alloc _
  have R2 : RowAt wb (g0 + 1) 53 (cells8 (Deed.of 9) (.slice none 0 0) (.slice none 0 0) (.slice none 0 0)) := by rw [← hwb, ← hza]; exact RowAt.new wa _ _
  have HB := Lib.hid ((hB.below BB.out).more (show g0 ≤ wb.heap.size by omega))
  have HC := Lib.hid ((hC.below BB.out).more (show g0 ≤ wb.heap.size by omega))
  have HK := Lib.hid ((hK.below BB.out).more (show g0 ≤ wb.heap.size by omega))
  have lB : d.b.length = nB := by have := hB.1; rw [bytesV_length] at this; omega
  have lC : d.calls.length = nC := by have := hC.1; rw [intsV_length] at this; omega
  have lK : d.keep.length = nK := by have := hK.1; rw [boolsV_length] at this; omega
  have hnC : nC ≤ 1000000000 := by have := hd.lc; omega
  have hnK : nK ≤ 1000000000 := by have := hd.lk; omega
  have hcl : clean d = { Deed.of 9 with n := d.n, keep := d.keep, torn := d.torn, part := d.part } := by simp [clean, hk]
  have hrd : rightD d = sameD d (clean d) := by unfold rightD; rw [decide_eq_true (by omega : 0 ≤ d.kind ∧ d.kind ≤ 10)]; rfl
  have SM : Hid (∀ W, Same3 g0 wb W → Calls Try.prog 39 #[.agg #[.int .i64 9, .int .i64 d.conn, .int .i64 d.n, .slice AB nB cB, .slice AC nC cC, .slice AK nK cK, .int .i64 d.torn, .int .i64 d.part], .agg #[.int .i64 9, .int .i64 0, .int .i64 d.n, .slice none 0 0, .slice none 0 0, .slice AK nK cK, .int .i64 d.torn, .int .i64 d.part]] W fun e w' => e = .returned (.bool (sameD d (clean d))) ∧ Below W.heap.size W w') := Lib.hid (fun W hW => by
    have HBx : SliceIn W W.heap.size 1 AB nB cB (bytesV d.b) := ((hB.below BB.out).keep fun p hp => hW.2 p hp).more (by have := hW.1; omega)
    have HCx : SliceIn W W.heap.size 1 AC nC cC (intsV d.calls) := ((hC.below BB.out).keep fun p hp => hW.2 p hp).more (by have := hW.1; omega)
    have HKx : SliceIn W W.heap.size 1 AK nK cK (boolsV d.keep) := ((hK.below BB.out).keep fun p hp => hW.2 p hp).more (by have := hW.1; omega)
    have h := refSame27_any d (clean d) AB AC AK none none AK nB cB nC cC nK cK 0 0 0 0 nK cK W HBx HCx HKx (by rw [hcl]; exact SliceIn.none_ (by simp [maxLen])) (by rw [hcl]; exact SliceIn.none_ (by simp [maxLen])) (by rw [hcl]; exact HKx) ⟨hnC, hnK⟩
    rw [c8, c8, hk] at h
    rw [show (clean d).kind = 9 by simp [hcl, Deed.of], show (clean d).conn = 0 by simp [hcl, Deed.of], show (clean d).n = d.n by simp [hcl, Deed.of], show (clean d).torn = d.torn by simp [hcl, Deed.of], show (clean d).part = d.part by simp [hcl, Deed.of]] at h
    exact h)
  rw [hrd]
  rw [c8] at hwa hwb
  have c0 := R1.cell (j := 0) rfl
  have d0 := R2.cell (j := 0) rfl
  have c1 := R1.cell (j := 1) rfl
  have d1 := R2.cell (j := 1) rfl
  have c2 := R1.cell (j := 2) rfl
  have d2 := R2.cell (j := 2) rfl
  have c3 := R1.cell (j := 3) rfl
  have d3 := R2.cell (j := 3) rfl
  have c4 := R1.cell (j := 4) rfl
  have d4 := R2.cell (j := 4) rfl
  have c5 := R1.cell (j := 5) rfl
  have d5 := R2.cell (j := 5) rfl
  have c6 := R1.cell (j := 6) rfl
  have d6 := R2.cell (j := 6) rfl
  have c7 := R1.cell (j := 7) rfl
  have d7 := R2.cell (j := 7) rfl
  have f2 := R2.frozen (j := 2) (by show 2 < 8; omega)
  have f5 := R2.frozen (j := 5) (by show 5 < 8; omega)
  have f6 := R2.frozen (j := 6) (by show 6 < 8; omega)
  have f7 := R2.frozen (j := 7) (by show 7 < 8; omega)
  have ca0 : wa.cell? ⟨g0, 0, none⟩ = some (.int .i64 d.kind) := by rw [← hwa, ← hg0]; exact (RowAt.new w _ [.int .i64 d.kind, .int .i64 d.conn, .int .i64 d.n, .slice AB nB cB, .slice AC nC cC, .slice AK nK cK, .int .i64 d.torn, .int .i64 d.part]).cell (j := 0) rfl
  rw [hk] at c0 ca0 hwa ⊢
  have HR1 : Hid (RowAt wb g0 53 [.int .i64 9, .int .i64 d.conn, .int .i64 d.n, .slice AB nB cB, .slice AC nC cC, .slice AK nK cK, .int .i64 d.torn, .int .i64 d.part]) := Lib.hid (by rw [← hk]; exact R1)
  have HR2 : Hid (RowAt wb (g0 + 1) 53 [.int .i64 9, .int .i64 0, .int .i64 0, .slice none 0 0, .slice none 0 0, .slice none 0 0, .int .i64 0, .int .i64 0]) := Lib.hid R2
  rw [show (Deed.of 9).kind = 9 from rfl, show (Deed.of 9).conn = 0 from rfl, show (Deed.of 9).n = 0 from rfl, show (Deed.of 9).torn = 0 from rfl, show (Deed.of 9).part = 0 from rfl] at hwb
  rw [show (Deed.of 9).kind = 9 from rfl] at d0
  rw [show (Deed.of 9).conn = 0 from rfl] at d1
  rw [show (Deed.of 9).n = 0 from rfl] at d2
  rw [show (Deed.of 9).torn = 0 from rfl] at d6
  rw [show (Deed.of 9).part = 0 from rfl] at d7
  clear hrd hcl R1 R2 hB hC hK lB lC lK hd hk HB HC HK
  generalize sameD d (clean d) = sm at *
  generalize d.conn = xc at *
  generalize d.n = xn at *
  generalize d.torn = xt at *
  generalize d.part = xp at *
  have Hwb := Lib.hid hwb
  have Hza := Lib.hid hza
  have hgb : g0 + 2 ≤ wb.heap.size := by omega
  clear hwb hza hzb
  go_enter Try.func27, Try.ntmps27
  go_upto_region 4 with fail
  rw [Hwb.out, Hza.out]
  clear ca0
  go_upto_region 19 with fail
  refine wp_region_tree0 (fun W => Below (g0 + 1) wb W) (.take 0 (.take 1 (.take 2 (.take 3 (.take 4 (.node (.fork 5 (.take 6 (.node (.fork 7 (.done) (.stop)))) (.stop)))))))) (by kernel_rfl) (by kernel_rfl) (of_decide_eq_true (by kernel_rfl)) rfl (by kernel_rfl) (below_drewN (Below.refl _ _) 1) ?_
  intro hH
  iterate 5
    refine tree_take (v := ?_) rfl (by rfl) ?_ ?_
    rotate_left
    · intro w2 hSw
      have x2 := (hSw.cell (p := ⟨g0, 2, none⟩) (by show g0 < g0 + 1; omega)).trans c2
      have x5 := (hSw.cell (p := ⟨g0, 5, none⟩) (by show g0 < g0 + 1; omega)).trans c5
      have x6 := (hSw.cell (p := ⟨g0, 6, none⟩) (by show g0 < g0 + 1; omega)).trans c6
      have x7 := (hSw.cell (p := ⟨g0, 7, none⟩) (by show g0 < g0 + 1; omega)).trans c7
      clear hSw
      go_simp
      try with_reducible rfl
    try simp only [Act.put, List.setIfInBounds_toArray, List.set_cons_zero, List.set_cons_succ]
  refine tree_node ?_
  refine tree_move rfl (by rfl) (fun K hK => ?_) ?_
  · go_simp
    skip
    refine hK.out _ _ (hH.out.setCell (p := ⟨g0 + 1, 2, none⟩) (Nat.le_refl _) _) ?_
    have R5 := Lib.hid ((HR2.out.drewN 1).set_ (j := 2) (by show 2 < 8; omega) (.int .i64 xn))
    clear hH hK K
    intro hH
    try simp only [Act.put, List.setIfInBounds_toArray, List.set_cons_zero, List.set_cons_succ]
    iterate 1
      refine tree_take (v := ?_) rfl (by rfl) ?_ ?_
      rotate_left
      · intro w2 hSw
        have x2 := (hSw.cell (p := ⟨g0, 2, none⟩) (by show g0 < g0 + 1; omega)).trans c2
        have x5 := (hSw.cell (p := ⟨g0, 5, none⟩) (by show g0 < g0 + 1; omega)).trans c5
        have x6 := (hSw.cell (p := ⟨g0, 6, none⟩) (by show g0 < g0 + 1; omega)).trans c6
        have x7 := (hSw.cell (p := ⟨g0, 7, none⟩) (by show g0 < g0 + 1; omega)).trans c7
        clear hSw
        go_simp
        try with_reducible rfl
      try simp only [Act.put, List.setIfInBounds_toArray, List.set_cons_zero, List.set_cons_succ]
    refine tree_node ?_
    refine tree_move rfl (by rfl) (fun K hK => ?_) ?_
    · refine wp_store_tail 51 _ _ rfl (g0 + 1) 5 53 [.int .i64 9, .int .i64 0, .int .i64 xn, .slice none 0 0, .slice none 0 0] [.slice AK nK cK, .int .i64 xt, .int .i64 xp] [.slice none 0 0, .int .i64 0, .int .i64 0] rfl rfl rfl R5.out rfl (by kernel_rfl) ?_ ?_
      · exact three_one rfl rfl rfl
      intro w9 hr9 ho9
      refine hK.out _ _ (ho9.below hH.out (Nat.le_refl _)) ?_
      have H9 := Lib.hid hr9
      clear hK K hr9 ho9 R5
      intro hH
      try simp only [Act.put]
      refine tree_done ?_
      go_upto_region 20 with fail
      have RX := H9.out
      have S3 : Hid (Same3 g0 wb w9) := Lib.hid ⟨hH.out.size, fun p hp => hH.out.cell (by omega)⟩
      have RZ := HR1.out.below hH.out (by omega)
      have OX : Hid (Below g0 w w9) := Lib.hid (BB.out.trans (hH.out.mono (by omega)))
      clear c0 d0 c1 d1 c2 d2 c3 d3 c4 d4 c5 d5 c6 d6 c7 d7 f2 f5 f6 f7
      have u0 := RZ.cell (j := 0) rfl
      have u1 := RZ.cell (j := 1) rfl
      have u2 := RZ.cell (j := 2) rfl
      have u3 := RZ.cell (j := 3) rfl
      have u4 := RZ.cell (j := 4) rfl
      have u5 := RZ.cell (j := 5) rfl
      have u6 := RZ.cell (j := 6) rfl
      have u7 := RZ.cell (j := 7) rfl
      have v0 := RX.cell (j := 0) rfl
      have v1 := RX.cell (j := 1) rfl
      have v2 := RX.cell (j := 2) rfl
      have v3 := RX.cell (j := 3) rfl
      have v4 := RX.cell (j := 4) rfl
      have v5 := RX.cell (j := 5) rfl
      have v6 := RX.cell (j := 6) rfl
      have v7 := RX.cell (j := 7) rfl
      clear RZ RX HR1 HR2 H9 hH
      go_wp2_with (go_at_call 39; refine (SM.out _ S3.out).mono ?_; rintro e w8 ⟨rfl, hb8⟩)
      go_ret
      exact ⟨rfl, OX.out.trans (hb8.mono (by have := S3.out.1; omega))⟩
    exact tree_stop
  exact tree_stop
theorem refRight27_no (d : Deed) (AB AC AK : Option Addr) (nB cB nC cC nK cK : Nat) (w : World) (hk : ¬ (0 ≤ d.kind ∧ d.kind ≤ 10)) :
    Calls Try.prog 27 #[.agg (cells8 d (.slice AB nB cB) (.slice AC nC cC) (.slice AK nK cK)).toArray] w fun e w' => e = .returned (.bool (rightD d)) ∧ Below w.heap.size w w' := by
  rw [c8]
  have hrd : rightD d = false := by unfold rightD; rw [decide_eq_false hk]; rfl
  rw [hrd]
  clear hrd
  by_cases h0 : d.kind < 0
  · clear hk
    generalize d.kind = xk at *
    go_enter Try.func27, Try.ntmps27
    go_wp2
    go_ret
    exact ⟨rfl, (Below.refl _ _).alloc (Nat.le_refl _) _⟩
  · have h1 : 10 < d.kind := by omega
    have h2 : 0 ≤ d.kind := by omega
    clear hk h0
    generalize d.kind = xk at *
    go_enter Try.func27, Try.ntmps27
    go_wp2
    go_ret
    exact ⟨rfl, (Below.refl _ _).alloc (Nat.le_refl _) _⟩
theorem refRight27_any (d : Deed) (AB AC AK : Option Addr) (nB cB nC cC nK cK : Nat) (w : World)
    (hB : SliceIn w w.heap.size 1 AB nB cB (bytesV d.b)) (hC : SliceIn w w.heap.size 1 AC nC cC (intsV d.calls)) (hK : SliceIn w w.heap.size 1 AK nK cK (boolsV d.keep)) (hd : DeedN d) :
    Calls Try.prog 27 #[.agg (cells8 d (.slice AB nB cB) (.slice AC nC cC) (.slice AK nK cK)).toArray] w fun e w' => e = .returned (.bool (rightD d)) ∧ Below w.heap.size w w' := by
  by_cases h : 0 ≤ d.kind ∧ d.kind ≤ 10
  · have h11 : d.kind = 0 ∨ d.kind = 1 ∨ d.kind = 2 ∨ d.kind = 3 ∨ d.kind = 4 ∨ d.kind = 5 ∨ d.kind = 6 ∨ d.kind = 7 ∨ d.kind = 8 ∨ d.kind = 9 ∨ d.kind = 10 := by omega
    rcases h11 with h | h | h | h | h | h | h | h | h | h | h
    · exact refRight27_k0 d AB AC AK nB cB nC cC nK cK w h hB hC hK hd
    · exact refRight27_k1 d AB AC AK nB cB nC cC nK cK w h hB hC hK hd
    · exact refRight27_k2 d AB AC AK nB cB nC cC nK cK w h hB hC hK hd
    · exact refRight27_k3 d AB AC AK nB cB nC cC nK cK w h hB hC hK hd
    · exact refRight27_k4 d AB AC AK nB cB nC cC nK cK w h hB hC hK hd
    · exact refRight27_k5 d AB AC AK nB cB nC cC nK cK w h hB hC hK hd
    · exact refRight27_k6 d AB AC AK nB cB nC cC nK cK w h hB hC hK hd
    · exact refRight27_k7 d AB AC AK nB cB nC cC nK cK w h hB hC hK hd
    · exact refRight27_k8 d AB AC AK nB cB nC cC nK cK w h hB hC hK hd
    · exact refRight27_k9 d AB AC AK nB cB nC cC nK cK w h hB hC hK hd
    · exact refRight27_k10 d AB AC AK nB cB nC cC nK cK w h hB hC hK hd
  · exact refRight27_no d AB AC AK nB cB nC cC nK cK w h
end Go.Proofs.Ytmcioedmjcbfbaa
