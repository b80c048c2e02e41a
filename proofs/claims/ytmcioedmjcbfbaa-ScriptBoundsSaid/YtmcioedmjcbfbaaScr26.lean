/- Walk of layer 27: the document's line of a deed. Condition: slices as they may be, at most 10^6 calls and bits, 10^7 octets. -/
import Derived.Test.YtmcioedmjcbfbaaScr24
import Derived.Test.YtmcioedmjcbfbaaScr5
import Derived.Test.YtmcioedmjcbfbaaScr8
namespace Go.Proofs.Ytmcioedmjcbfbaa
open Go.RowKit IH
set_option maxRecDepth 100000
/-- The document's line of a deed; of a kind that there isn't none. -/
def printX (d : Deed) : List UInt8 := if 0 ≤ d.kind ∧ d.kind ≤ 10 then printD d else []
theorem printX_in {d : Deed} (h0 : 0 ≤ d.kind) (h1 : d.kind ≤ 10) : printX d = printD d := if_pos ⟨h0, h1⟩
/-- Bounds of a deed's numbers and slices. -/
structure DeedN (d : Deed) : Prop where
  ic : inI d.conn
  iN : inI d.n
  it : inI d.torn
  ip : inI d.part
  ia : ∀ n ∈ d.calls, inI n
  lb : d.b.length ≤ 10000000
  lc : d.calls.length ≤ 100000
  lk : d.keep.length ≤ 1000000
theorem num_size {n : Int} (h : inI n) : (⟨(numL n).toArray⟩ : ByteArray).size ≤ 65 := by rw [size_mk]; exact num_length h
theorem quote_size {l : List UInt8} (h : l.length ≤ 10000000) : (⟨(quote27 l).toArray⟩ : ByteArray).size ≤ 40000002 := by
  have := quote_length l
  rw [size_mk]; omega
theorem mk_data2 (l : List UInt8) : (⟨l.toArray⟩ : ByteArray).data.toList = l := rfl
set_option maxHeartbeats 4000000 in
theorem refPrint27_k0 (d : Deed) (AB AC AK : Option Addr) (nB cB nC cC nK cK : Nat) (w : World) (hk : d.kind = 0)
    (hB : SliceIn w w.heap.size 1 AB nB cB (bytesV d.b)) (hC : SliceIn w w.heap.size 1 AC nC cC (intsV d.calls)) (hK : SliceIn w w.heap.size 1 AK nK cK (boolsV d.keep)) (hd : DeedN d) :
    Calls Try.prog 28 #[.agg (cells8 d (.slice AB nB cB) (.slice AC nC cC) (.slice AK nK cK)).toArray] w fun e w' => e = .returned (.string ⟨(printX d).toArray⟩) ∧ Below w.heap.size w w' := by
  rw [c8]
  obtain ⟨g0, hg0⟩ : ∃ g0, w.heap.size = g0 := ⟨_, rfl⟩
  obtain ⟨wa, hwa⟩ : ∃ wa, w.alloc (.cells (cells8 d (.slice AB nB cB) (.slice AC nC cC) (.slice AK nK cK)).toArray 53) = wa := ⟨_, rfl⟩
  rw [hg0]
  rw [hg0] at hB hC hK
  have hz1 : wa.heap.size = g0 + 1 := by rw [← hwa]; simp [hg0]
  have B1 : Hid (Below g0 w wa) := Lib.hid (by rw [← hwa]; exact (Below.refl _ _).alloc (by omega) _)
  have R1 : RowAt wa g0 53 (cells8 d (.slice AB nB cB) (.slice AC nC cC) (.slice AK nK cK)) := by rw [← hwa, ← hg0]; exact RowAt.new w _ _
  have HB := Lib.hid ((hB.below B1.out).more (show g0 ≤ wa.heap.size by omega))
  have HC := Lib.hid ((hC.below B1.out).more (show g0 ≤ wa.heap.size by omega))
  have HK := Lib.hid ((hK.below B1.out).more (show g0 ≤ wa.heap.size by omega))
  have lB : d.b.length = nB := by have := hB.1; rw [bytesV_length] at this; omega
  have lC : d.calls.length = nC := by have := hC.1; rw [intsV_length] at this; omega
  have lK : d.keep.length = nK := by have := hK.1; rw [boolsV_length] at this; omega
  have HD := Lib.hid hd
  have hnB : nB ≤ 10000000 := by have := hd.lb; omega
  have hnC : nC ≤ 1000000 := by have := hd.lc; omega
  have hnK : nK ≤ 1000000 := by have := hd.lk; omega
  rw [c8] at hwa
  have c0 := R1.cell (j := 0) rfl
  have c1 := R1.cell (j := 1) rfl
  have c2 := R1.cell (j := 2) rfl
  have c3 := R1.cell (j := 3) rfl
  have c4 := R1.cell (j := 4) rfl
  have c5 := R1.cell (j := 5) rfl
  have c6 := R1.cell (j := 6) rfl
  have c7 := R1.cell (j := 7) rfl
  have hg1 : g0 < wa.heap.size := by omega
  have LB := Lib.hid lB
  have LC := Lib.hid lC
  have LK := Lib.hid lK
  clear R1 hB hC hK lB lC lK hd
  have HF : Hid ((⟨#[111, 112, 101, 110]⟩ : ByteArray).data.toList = printX d) := Lib.hid (by
    rw [printX_in (by omega) (by omega)]
    simp [printD, nameK, tailD, hk])
  rw [hk] at c0 hwa ⊢
  clear hk
  go_enter Try.func28, Try.ntmps28
  go_wp2
  go_ret
  exact ⟨ret_str (bytes_eq HF.out), B1.out⟩
set_option maxHeartbeats 4000000 in
theorem refPrint27_k1 (d : Deed) (AB AC AK : Option Addr) (nB cB nC cC nK cK : Nat) (w : World) (hk : d.kind = 1)
    (hB : SliceIn w w.heap.size 1 AB nB cB (bytesV d.b)) (hC : SliceIn w w.heap.size 1 AC nC cC (intsV d.calls)) (hK : SliceIn w w.heap.size 1 AK nK cK (boolsV d.keep)) (hd : DeedN d) :
    Calls Try.prog 28 #[.agg (cells8 d (.slice AB nB cB) (.slice AC nC cC) (.slice AK nK cK)).toArray] w fun e w' => e = .returned (.string ⟨(printX d).toArray⟩) ∧ Below w.heap.size w w' := by
  rw [c8]
  obtain ⟨g0, hg0⟩ : ∃ g0, w.heap.size = g0 := ⟨_, rfl⟩
  obtain ⟨wa, hwa⟩ : ∃ wa, w.alloc (.cells (cells8 d (.slice AB nB cB) (.slice AC nC cC) (.slice AK nK cK)).toArray 53) = wa := ⟨_, rfl⟩
  rw [hg0]
  rw [hg0] at hB hC hK
  have hz1 : wa.heap.size = g0 + 1 := by rw [← hwa]; simp [hg0]
  have B1 : Hid (Below g0 w wa) := Lib.hid (by rw [← hwa]; exact (Below.refl _ _).alloc (by omega) _)
  have R1 : RowAt wa g0 53 (cells8 d (.slice AB nB cB) (.slice AC nC cC) (.slice AK nK cK)) := by rw [← hwa, ← hg0]; exact RowAt.new w _ _
  have HB := Lib.hid ((hB.below B1.out).more (show g0 ≤ wa.heap.size by omega))
  have HC := Lib.hid ((hC.below B1.out).more (show g0 ≤ wa.heap.size by omega))
  have HK := Lib.hid ((hK.below B1.out).more (show g0 ≤ wa.heap.size by omega))
  have lB : d.b.length = nB := by have := hB.1; rw [bytesV_length] at this; omega
  have lC : d.calls.length = nC := by have := hC.1; rw [intsV_length] at this; omega
  have lK : d.keep.length = nK := by have := hK.1; rw [boolsV_length] at this; omega
  have HD := Lib.hid hd
  have hnB : nB ≤ 10000000 := by have := hd.lb; omega
  have hnC : nC ≤ 1000000 := by have := hd.lc; omega
  have hnK : nK ≤ 1000000 := by have := hd.lk; omega
  rw [c8] at hwa
  have c0 := R1.cell (j := 0) rfl
  have c1 := R1.cell (j := 1) rfl
  have c2 := R1.cell (j := 2) rfl
  have c3 := R1.cell (j := 3) rfl
  have c4 := R1.cell (j := 4) rfl
  have c5 := R1.cell (j := 5) rfl
  have c6 := R1.cell (j := 6) rfl
  have c7 := R1.cell (j := 7) rfl
  have hg1 : g0 < wa.heap.size := by omega
  obtain ⟨X, hX⟩ : ∃ S : ByteArray, (⟨(numL d.conn).toArray⟩ : ByteArray) = S := ⟨_, rfl⟩
  have zX : X.size ≤ 65 := by rw [← hX]; exact num_size HD.out.ic
  have lX : Hid (X.data.toList = numL d.conn) := Lib.hid (by rw [← hX])
  have DX := Lib.hid (fun w => refDigits_any d.conn HD.out.ic.1 HD.out.ic.2 w)
  rw [hX] at DX
  obtain ⟨Y, hY⟩ : ∃ S : ByteArray, (⟨(quote27 d.b).toArray⟩ : ByteArray) = S := ⟨_, rfl⟩
  have zY : Y.size ≤ 40000002 := by rw [← hY]; exact quote_size HD.out.lb
  have lY : Hid (Y.data.toList = quote27 d.b) := Lib.hid (by rw [← hY])
  have DY := Lib.hid (fun (W : World) (hW : Below wa.heap.size wa W) => refQuote_any AB nB cB d.b W ((HB.out.below hW).more hW.size) (by omega))
  rw [hY] at DY
  have LB := Lib.hid lB
  have LC := Lib.hid lC
  have LK := Lib.hid lK
  clear R1 hB hC hK lB lC lK hd
  have HF : Hid (((⟨#[99, 108, 105, 101, 110, 116, 32]⟩ : ByteArray) ++ X ++ (⟨#[32]⟩ : ByteArray) ++ Y).data.toList = printX d) := Lib.hid (by
    rw [printX_in (by omega) (by omega)]
    simp only [printD, nameK, tailD, hk]
    simp [lX.out, lY.out])
  rw [hk] at c0 hwa ⊢
  clear hk hX hY
  go_enter Try.func28, Try.ntmps28
  go_upto_region 5 with fail
  refine wp_region_plan (fun W => Below wa.heap.size wa W) [(0, true), (1, true), (5, true), (6, true), (2, false), (3, true), (4, true), (7, false), (8, true), (9, true)] (by kernel_rfl) (by kernel_rfl) rfl (by kernel_rfl) (below_drewN (Below.refl _ _) 1) ?_
  intro w1 hH
  iterate 4
    refine plan_take (v := ?_) rfl (by rfl) ?_ ?_
    rotate_left
    · intro w2 hSw
      have x1 := (hSw.cell (p := ⟨g0, 1, none⟩) hg1).trans c1
      have x3 := (hSw.cell (p := ⟨g0, 3, none⟩) hg1).trans c3
      clear hSw
      go_simp
      try with_reducible rfl
    try simp only [Act.put, List.setIfInBounds_toArray, List.set_cons_zero, List.set_cons_succ]
  refine plan_move rfl (by rfl) (fun K hK => ?_)
  go_simp
  (with_reducible refine (DX.out _).mono ?_)
  rintro e w5 ⟨rfl, hb5⟩
  refine hK.out _ _ (below_step hH.out hb5) ?_
  clear hH hK hb5 K
  intro hH
  try simp only [Act.put, List.setIfInBounds_toArray, List.set_cons_zero, List.set_cons_succ]
  iterate 2
    refine plan_add rfl (by rfl) _ _ _ _ rfl _ _ (by rfl) (by rfl) (by first | omega | (simp [mk_size]; omega)) ?_
    try simp only [Act.put, List.setIfInBounds_toArray, List.set_cons_zero, List.set_cons_succ]
  refine plan_move rfl (by rfl) (fun K hK => ?_)
  go_simp
  (with_reducible refine (DY.out _ hH.out).mono ?_)
  rintro e w5 ⟨rfl, hb5⟩
  refine hK.out _ _ (below_step hH.out hb5) ?_
  clear hH hK hb5 K
  intro hH
  try simp only [Act.put, List.setIfInBounds_toArray, List.set_cons_zero, List.set_cons_succ]
  iterate 1
    refine plan_add rfl (by rfl) _ _ _ _ rfl _ _ (by rfl) (by rfl) (by first | omega | (simp [mk_size]; omega)) ?_
    try simp only [Act.put, List.setIfInBounds_toArray, List.set_cons_zero, List.set_cons_succ]
  iterate 1
    refine plan_take (v := ?_) rfl (by rfl) ?_ ?_
    rotate_left
    · intro w2 hSw
      have x1 := (hSw.cell (p := ⟨g0, 1, none⟩) hg1).trans c1
      have x3 := (hSw.cell (p := ⟨g0, 3, none⟩) hg1).trans c3
      clear hSw
      go_simp
      try with_reducible rfl
    try simp only [Act.put, List.setIfInBounds_toArray, List.set_cons_zero, List.set_cons_succ]
  refine plan_done ?_
  have B9 := Lib.hid (B1.out.trans (hH.out.mono (show g0 ≤ wa.heap.size by omega)))
  clear hH
  go_wp2
  go_ret
  exact ⟨ret_str (bytes_eq HF.out), B9.out⟩
set_option maxHeartbeats 4000000 in
theorem refPrint27_k2 (d : Deed) (AB AC AK : Option Addr) (nB cB nC cC nK cK : Nat) (w : World) (hk : d.kind = 2)
    (hB : SliceIn w w.heap.size 1 AB nB cB (bytesV d.b)) (hC : SliceIn w w.heap.size 1 AC nC cC (intsV d.calls)) (hK : SliceIn w w.heap.size 1 AK nK cK (boolsV d.keep)) (hd : DeedN d) :
    Calls Try.prog 28 #[.agg (cells8 d (.slice AB nB cB) (.slice AC nC cC) (.slice AK nK cK)).toArray] w fun e w' => e = .returned (.string ⟨(printX d).toArray⟩) ∧ Below w.heap.size w w' := by
  rw [c8]
  obtain ⟨g0, hg0⟩ : ∃ g0, w.heap.size = g0 := ⟨_, rfl⟩
  obtain ⟨wa, hwa⟩ : ∃ wa, w.alloc (.cells (cells8 d (.slice AB nB cB) (.slice AC nC cC) (.slice AK nK cK)).toArray 53) = wa := ⟨_, rfl⟩
  rw [hg0]
  rw [hg0] at hB hC hK
  have hz1 : wa.heap.size = g0 + 1 := by rw [← hwa]; simp [hg0]
  have B1 : Hid (Below g0 w wa) := Lib.hid (by rw [← hwa]; exact (Below.refl _ _).alloc (by omega) _)
  have R1 : RowAt wa g0 53 (cells8 d (.slice AB nB cB) (.slice AC nC cC) (.slice AK nK cK)) := by rw [← hwa, ← hg0]; exact RowAt.new w _ _
  have HB := Lib.hid ((hB.below B1.out).more (show g0 ≤ wa.heap.size by omega))
  have HC := Lib.hid ((hC.below B1.out).more (show g0 ≤ wa.heap.size by omega))
  have HK := Lib.hid ((hK.below B1.out).more (show g0 ≤ wa.heap.size by omega))
  have lB : d.b.length = nB := by have := hB.1; rw [bytesV_length] at this; omega
  have lC : d.calls.length = nC := by have := hC.1; rw [intsV_length] at this; omega
  have lK : d.keep.length = nK := by have := hK.1; rw [boolsV_length] at this; omega
  have HD := Lib.hid hd
  have hnB : nB ≤ 10000000 := by have := hd.lb; omega
  have hnC : nC ≤ 1000000 := by have := hd.lc; omega
  have hnK : nK ≤ 1000000 := by have := hd.lk; omega
  rw [c8] at hwa
  have c0 := R1.cell (j := 0) rfl
  have c1 := R1.cell (j := 1) rfl
  have c2 := R1.cell (j := 2) rfl
  have c3 := R1.cell (j := 3) rfl
  have c4 := R1.cell (j := 4) rfl
  have c5 := R1.cell (j := 5) rfl
  have c6 := R1.cell (j := 6) rfl
  have c7 := R1.cell (j := 7) rfl
  have hg1 : g0 < wa.heap.size := by omega
  obtain ⟨X, hX⟩ : ∃ S : ByteArray, (⟨(numL d.conn).toArray⟩ : ByteArray) = S := ⟨_, rfl⟩
  have zX : X.size ≤ 65 := by rw [← hX]; exact num_size HD.out.ic
  have lX : Hid (X.data.toList = numL d.conn) := Lib.hid (by rw [← hX])
  have DX := Lib.hid (fun w => refDigits_any d.conn HD.out.ic.1 HD.out.ic.2 w)
  rw [hX] at DX
  obtain ⟨Y, hY⟩ : ∃ S : ByteArray, (⟨(quote27 d.b).toArray⟩ : ByteArray) = S := ⟨_, rfl⟩
  have zY : Y.size ≤ 40000002 := by rw [← hY]; exact quote_size HD.out.lb
  have lY : Hid (Y.data.toList = quote27 d.b) := Lib.hid (by rw [← hY])
  have DY := Lib.hid (fun (W : World) (hW : Below wa.heap.size wa W) => refQuote_any AB nB cB d.b W ((HB.out.below hW).more hW.size) (by omega))
  rw [hY] at DY
  have LB := Lib.hid lB
  have LC := Lib.hid lC
  have LK := Lib.hid lK
  clear R1 hB hC hK lB lC lK hd
  have HF : Hid (((⟨#[111, 114, 105, 103, 105, 110, 32]⟩ : ByteArray) ++ X ++ (⟨#[32]⟩ : ByteArray) ++ Y).data.toList = printX d) := Lib.hid (by
    rw [printX_in (by omega) (by omega)]
    simp only [printD, nameK, tailD, hk]
    simp [lX.out, lY.out])
  rw [hk] at c0 hwa ⊢
  clear hk hX hY
  go_enter Try.func28, Try.ntmps28
  go_upto_region 7 with fail
  refine wp_region_plan (fun W => Below wa.heap.size wa W) [(0, true), (1, true), (5, true), (6, true), (2, false), (3, true), (4, true), (7, false), (8, true), (9, true)] (by kernel_rfl) (by kernel_rfl) rfl (by kernel_rfl) (below_drewN (Below.refl _ _) 1) ?_
  intro w1 hH
  iterate 4
    refine plan_take (v := ?_) rfl (by rfl) ?_ ?_
    rotate_left
    · intro w2 hSw
      have x1 := (hSw.cell (p := ⟨g0, 1, none⟩) hg1).trans c1
      have x3 := (hSw.cell (p := ⟨g0, 3, none⟩) hg1).trans c3
      clear hSw
      go_simp
      try with_reducible rfl
    try simp only [Act.put, List.setIfInBounds_toArray, List.set_cons_zero, List.set_cons_succ]
  refine plan_move rfl (by rfl) (fun K hK => ?_)
  go_simp
  (with_reducible refine (DX.out _).mono ?_)
  rintro e w5 ⟨rfl, hb5⟩
  refine hK.out _ _ (below_step hH.out hb5) ?_
  clear hH hK hb5 K
  intro hH
  try simp only [Act.put, List.setIfInBounds_toArray, List.set_cons_zero, List.set_cons_succ]
  iterate 2
    refine plan_add rfl (by rfl) _ _ _ _ rfl _ _ (by rfl) (by rfl) (by first | omega | (simp [mk_size]; omega)) ?_
    try simp only [Act.put, List.setIfInBounds_toArray, List.set_cons_zero, List.set_cons_succ]
  refine plan_move rfl (by rfl) (fun K hK => ?_)
  go_simp
  (with_reducible refine (DY.out _ hH.out).mono ?_)
  rintro e w5 ⟨rfl, hb5⟩
  refine hK.out _ _ (below_step hH.out hb5) ?_
  clear hH hK hb5 K
  intro hH
  try simp only [Act.put, List.setIfInBounds_toArray, List.set_cons_zero, List.set_cons_succ]
  iterate 1
    refine plan_add rfl (by rfl) _ _ _ _ rfl _ _ (by rfl) (by rfl) (by first | omega | (simp [mk_size]; omega)) ?_
    try simp only [Act.put, List.setIfInBounds_toArray, List.set_cons_zero, List.set_cons_succ]
  iterate 1
    refine plan_take (v := ?_) rfl (by rfl) ?_ ?_
    rotate_left
    · intro w2 hSw
      have x1 := (hSw.cell (p := ⟨g0, 1, none⟩) hg1).trans c1
      have x3 := (hSw.cell (p := ⟨g0, 3, none⟩) hg1).trans c3
      clear hSw
      go_simp
      try with_reducible rfl
    try simp only [Act.put, List.setIfInBounds_toArray, List.set_cons_zero, List.set_cons_succ]
  refine plan_done ?_
  have B9 := Lib.hid (B1.out.trans (hH.out.mono (show g0 ≤ wa.heap.size by omega)))
  clear hH
  go_wp2
  go_ret
  exact ⟨ret_str (bytes_eq HF.out), B9.out⟩
set_option maxHeartbeats 4000000 in
theorem refPrint27_k3 (d : Deed) (AB AC AK : Option Addr) (nB cB nC cC nK cK : Nat) (w : World) (hk : d.kind = 3)
    (hB : SliceIn w w.heap.size 1 AB nB cB (bytesV d.b)) (hC : SliceIn w w.heap.size 1 AC nC cC (intsV d.calls)) (hK : SliceIn w w.heap.size 1 AK nK cK (boolsV d.keep)) (hd : DeedN d) :
    Calls Try.prog 28 #[.agg (cells8 d (.slice AB nB cB) (.slice AC nC cC) (.slice AK nK cK)).toArray] w fun e w' => e = .returned (.string ⟨(printX d).toArray⟩) ∧ Below w.heap.size w w' := by
  rw [c8]
  obtain ⟨g0, hg0⟩ : ∃ g0, w.heap.size = g0 := ⟨_, rfl⟩
  obtain ⟨wa, hwa⟩ : ∃ wa, w.alloc (.cells (cells8 d (.slice AB nB cB) (.slice AC nC cC) (.slice AK nK cK)).toArray 53) = wa := ⟨_, rfl⟩
  rw [hg0]
  rw [hg0] at hB hC hK
  have hz1 : wa.heap.size = g0 + 1 := by rw [← hwa]; simp [hg0]
  have B1 : Hid (Below g0 w wa) := Lib.hid (by rw [← hwa]; exact (Below.refl _ _).alloc (by omega) _)
  have R1 : RowAt wa g0 53 (cells8 d (.slice AB nB cB) (.slice AC nC cC) (.slice AK nK cK)) := by rw [← hwa, ← hg0]; exact RowAt.new w _ _
  have HB := Lib.hid ((hB.below B1.out).more (show g0 ≤ wa.heap.size by omega))
  have HC := Lib.hid ((hC.below B1.out).more (show g0 ≤ wa.heap.size by omega))
  have HK := Lib.hid ((hK.below B1.out).more (show g0 ≤ wa.heap.size by omega))
  have lB : d.b.length = nB := by have := hB.1; rw [bytesV_length] at this; omega
  have lC : d.calls.length = nC := by have := hC.1; rw [intsV_length] at this; omega
  have lK : d.keep.length = nK := by have := hK.1; rw [boolsV_length] at this; omega
  have HD := Lib.hid hd
  have hnB : nB ≤ 10000000 := by have := hd.lb; omega
  have hnC : nC ≤ 1000000 := by have := hd.lc; omega
  have hnK : nK ≤ 1000000 := by have := hd.lk; omega
  rw [c8] at hwa
  have c0 := R1.cell (j := 0) rfl
  have c1 := R1.cell (j := 1) rfl
  have c2 := R1.cell (j := 2) rfl
  have c3 := R1.cell (j := 3) rfl
  have c4 := R1.cell (j := 4) rfl
  have c5 := R1.cell (j := 5) rfl
  have c6 := R1.cell (j := 6) rfl
  have c7 := R1.cell (j := 7) rfl
  have hg1 : g0 < wa.heap.size := by omega
  obtain ⟨X, hX⟩ : ∃ S : ByteArray, (⟨(numL d.conn).toArray⟩ : ByteArray) = S := ⟨_, rfl⟩
  have zX : X.size ≤ 65 := by rw [← hX]; exact num_size HD.out.ic
  have lX : Hid (X.data.toList = numL d.conn) := Lib.hid (by rw [← hX])
  have DX := Lib.hid (fun w => refDigits_any d.conn HD.out.ic.1 HD.out.ic.2 w)
  rw [hX] at DX
  have LB := Lib.hid lB
  have LC := Lib.hid lC
  have LK := Lib.hid lK
  clear R1 hB hC hK lB lC lK hd
  have HF : Hid (((⟨#[104, 97, 110, 103, 32]⟩ : ByteArray) ++ X).data.toList = printX d) := Lib.hid (by
    rw [printX_in (by omega) (by omega)]
    simp only [printD, nameK, tailD, hk]
    simp [lX.out])
  rw [hk] at c0 hwa ⊢
  clear hk hX
  generalize d.conn = xx at *
  go_enter Try.func28, Try.ntmps28
  go_wp2_with (go_at_call 40; refine (DX.out _).mono ?_; rintro e w2 ⟨rfl, hb2⟩)
  go_ret
  exact ⟨ret_str (bytes_eq HF.out), B1.out.trans (hb2.mono (by omega))⟩
set_option maxHeartbeats 4000000 in
theorem refPrint27_k4 (d : Deed) (AB AC AK : Option Addr) (nB cB nC cC nK cK : Nat) (w : World) (hk : d.kind = 4)
    (hB : SliceIn w w.heap.size 1 AB nB cB (bytesV d.b)) (hC : SliceIn w w.heap.size 1 AC nC cC (intsV d.calls)) (hK : SliceIn w w.heap.size 1 AK nK cK (boolsV d.keep)) (hd : DeedN d) :
    Calls Try.prog 28 #[.agg (cells8 d (.slice AB nB cB) (.slice AC nC cC) (.slice AK nK cK)).toArray] w fun e w' => e = .returned (.string ⟨(printX d).toArray⟩) ∧ Below w.heap.size w w' := by
  rw [c8]
  obtain ⟨g0, hg0⟩ : ∃ g0, w.heap.size = g0 := ⟨_, rfl⟩
  obtain ⟨wa, hwa⟩ : ∃ wa, w.alloc (.cells (cells8 d (.slice AB nB cB) (.slice AC nC cC) (.slice AK nK cK)).toArray 53) = wa := ⟨_, rfl⟩
  rw [hg0]
  rw [hg0] at hB hC hK
  have hz1 : wa.heap.size = g0 + 1 := by rw [← hwa]; simp [hg0]
  have B1 : Hid (Below g0 w wa) := Lib.hid (by rw [← hwa]; exact (Below.refl _ _).alloc (by omega) _)
  have R1 : RowAt wa g0 53 (cells8 d (.slice AB nB cB) (.slice AC nC cC) (.slice AK nK cK)) := by rw [← hwa, ← hg0]; exact RowAt.new w _ _
  have HB := Lib.hid ((hB.below B1.out).more (show g0 ≤ wa.heap.size by omega))
  have HC := Lib.hid ((hC.below B1.out).more (show g0 ≤ wa.heap.size by omega))
  have HK := Lib.hid ((hK.below B1.out).more (show g0 ≤ wa.heap.size by omega))
  have lB : d.b.length = nB := by have := hB.1; rw [bytesV_length] at this; omega
  have lC : d.calls.length = nC := by have := hC.1; rw [intsV_length] at this; omega
  have lK : d.keep.length = nK := by have := hK.1; rw [boolsV_length] at this; omega
  have HD := Lib.hid hd
  have hnB : nB ≤ 10000000 := by have := hd.lb; omega
  have hnC : nC ≤ 1000000 := by have := hd.lc; omega
  have hnK : nK ≤ 1000000 := by have := hd.lk; omega
  rw [c8] at hwa
  have c0 := R1.cell (j := 0) rfl
  have c1 := R1.cell (j := 1) rfl
  have c2 := R1.cell (j := 2) rfl
  have c3 := R1.cell (j := 3) rfl
  have c4 := R1.cell (j := 4) rfl
  have c5 := R1.cell (j := 5) rfl
  have c6 := R1.cell (j := 6) rfl
  have c7 := R1.cell (j := 7) rfl
  have hg1 : g0 < wa.heap.size := by omega
  obtain ⟨X, hX⟩ : ∃ S : ByteArray, (⟨(numL d.conn).toArray⟩ : ByteArray) = S := ⟨_, rfl⟩
  have zX : X.size ≤ 65 := by rw [← hX]; exact num_size HD.out.ic
  have lX : Hid (X.data.toList = numL d.conn) := Lib.hid (by rw [← hX])
  have DX := Lib.hid (fun w => refDigits_any d.conn HD.out.ic.1 HD.out.ic.2 w)
  rw [hX] at DX
  have LB := Lib.hid lB
  have LC := Lib.hid lC
  have LK := Lib.hid lK
  clear R1 hB hC hK lB lC lK hd
  have HF : Hid (((⟨#[113, 117, 105, 116, 32]⟩ : ByteArray) ++ X).data.toList = printX d) := Lib.hid (by
    rw [printX_in (by omega) (by omega)]
    simp only [printD, nameK, tailD, hk]
    simp [lX.out])
  rw [hk] at c0 hwa ⊢
  clear hk hX
  generalize d.conn = xx at *
  go_enter Try.func28, Try.ntmps28
  go_wp2_with (go_at_call 40; refine (DX.out _).mono ?_; rintro e w2 ⟨rfl, hb2⟩)
  go_ret
  exact ⟨ret_str (bytes_eq HF.out), B1.out.trans (hb2.mono (by omega))⟩
set_option maxHeartbeats 4000000 in
theorem refPrint27_k5 (d : Deed) (AB AC AK : Option Addr) (nB cB nC cC nK cK : Nat) (w : World) (hk : d.kind = 5)
    (hB : SliceIn w w.heap.size 1 AB nB cB (bytesV d.b)) (hC : SliceIn w w.heap.size 1 AC nC cC (intsV d.calls)) (hK : SliceIn w w.heap.size 1 AK nK cK (boolsV d.keep)) (hd : DeedN d) :
    Calls Try.prog 28 #[.agg (cells8 d (.slice AB nB cB) (.slice AC nC cC) (.slice AK nK cK)).toArray] w fun e w' => e = .returned (.string ⟨(printX d).toArray⟩) ∧ Below w.heap.size w w' := by
  rw [c8]
  obtain ⟨g0, hg0⟩ : ∃ g0, w.heap.size = g0 := ⟨_, rfl⟩
  obtain ⟨wa, hwa⟩ : ∃ wa, w.alloc (.cells (cells8 d (.slice AB nB cB) (.slice AC nC cC) (.slice AK nK cK)).toArray 53) = wa := ⟨_, rfl⟩
  rw [hg0]
  rw [hg0] at hB hC hK
  have hz1 : wa.heap.size = g0 + 1 := by rw [← hwa]; simp [hg0]
  have B1 : Hid (Below g0 w wa) := Lib.hid (by rw [← hwa]; exact (Below.refl _ _).alloc (by omega) _)
  have R1 : RowAt wa g0 53 (cells8 d (.slice AB nB cB) (.slice AC nC cC) (.slice AK nK cK)) := by rw [← hwa, ← hg0]; exact RowAt.new w _ _
  have HB := Lib.hid ((hB.below B1.out).more (show g0 ≤ wa.heap.size by omega))
  have HC := Lib.hid ((hC.below B1.out).more (show g0 ≤ wa.heap.size by omega))
  have HK := Lib.hid ((hK.below B1.out).more (show g0 ≤ wa.heap.size by omega))
  have lB : d.b.length = nB := by have := hB.1; rw [bytesV_length] at this; omega
  have lC : d.calls.length = nC := by have := hC.1; rw [intsV_length] at this; omega
  have lK : d.keep.length = nK := by have := hK.1; rw [boolsV_length] at this; omega
  have HD := Lib.hid hd
  have hnB : nB ≤ 10000000 := by have := hd.lb; omega
  have hnC : nC ≤ 1000000 := by have := hd.lc; omega
  have hnK : nK ≤ 1000000 := by have := hd.lk; omega
  rw [c8] at hwa
  have c0 := R1.cell (j := 0) rfl
  have c1 := R1.cell (j := 1) rfl
  have c2 := R1.cell (j := 2) rfl
  have c3 := R1.cell (j := 3) rfl
  have c4 := R1.cell (j := 4) rfl
  have c5 := R1.cell (j := 5) rfl
  have c6 := R1.cell (j := 6) rfl
  have c7 := R1.cell (j := 7) rfl
  have hg1 : g0 < wa.heap.size := by omega
  obtain ⟨X, hX⟩ : ∃ S : ByteArray, (⟨(numL d.conn).toArray⟩ : ByteArray) = S := ⟨_, rfl⟩
  have zX : X.size ≤ 65 := by rw [← hX]; exact num_size HD.out.ic
  have lX : Hid (X.data.toList = numL d.conn) := Lib.hid (by rw [← hX])
  have DX := Lib.hid (fun w => refDigits_any d.conn HD.out.ic.1 HD.out.ic.2 w)
  rw [hX] at DX
  obtain ⟨Y, hY⟩ : ∃ S : ByteArray, (⟨(numL d.n).toArray⟩ : ByteArray) = S := ⟨_, rfl⟩
  have zY : Y.size ≤ 65 := by rw [← hY]; exact num_size HD.out.iN
  have lY : Hid (Y.data.toList = numL d.n) := Lib.hid (by rw [← hY])
  have DY := Lib.hid (fun w => refDigits_any d.n HD.out.iN.1 HD.out.iN.2 w)
  rw [hY] at DY
  have LB := Lib.hid lB
  have LC := Lib.hid lC
  have LK := Lib.hid lK
  clear R1 hB hC hK lB lC lK hd
  have HF : Hid (((⟨#[112, 105, 99, 107, 32]⟩ : ByteArray) ++ X ++ (⟨#[32]⟩ : ByteArray) ++ Y).data.toList = printX d) := Lib.hid (by
    rw [printX_in (by omega) (by omega)]
    simp only [printD, nameK, tailD, hk]
    simp [lX.out, lY.out])
  rw [hk] at c0 hwa ⊢
  clear hk hX hY
  go_enter Try.func28, Try.ntmps28
  go_upto_region 13 with fail
  refine wp_region_plan (fun W => Below wa.heap.size wa W) [(0, true), (1, true), (5, true), (6, true), (2, false), (3, true), (4, true), (7, false), (8, true), (9, true)] (by kernel_rfl) (by kernel_rfl) rfl (by kernel_rfl) (below_drewN (Below.refl _ _) 1) ?_
  intro w1 hH
  iterate 4
    refine plan_take (v := ?_) rfl (by rfl) ?_ ?_
    rotate_left
    · intro w2 hSw
      have x1 := (hSw.cell (p := ⟨g0, 1, none⟩) hg1).trans c1
      have x2 := (hSw.cell (p := ⟨g0, 2, none⟩) hg1).trans c2
      clear hSw
      go_simp
      try with_reducible rfl
    try simp only [Act.put, List.setIfInBounds_toArray, List.set_cons_zero, List.set_cons_succ]
  refine plan_move rfl (by rfl) (fun K hK => ?_)
  go_simp
  (with_reducible refine (DX.out _).mono ?_)
  rintro e w5 ⟨rfl, hb5⟩
  refine hK.out _ _ (below_step hH.out hb5) ?_
  clear hH hK hb5 K
  intro hH
  try simp only [Act.put, List.setIfInBounds_toArray, List.set_cons_zero, List.set_cons_succ]
  iterate 2
    refine plan_add rfl (by rfl) _ _ _ _ rfl _ _ (by rfl) (by rfl) (by first | omega | (simp [mk_size]; omega)) ?_
    try simp only [Act.put, List.setIfInBounds_toArray, List.set_cons_zero, List.set_cons_succ]
  refine plan_move rfl (by rfl) (fun K hK => ?_)
  go_simp
  (with_reducible refine (DY.out _).mono ?_)
  rintro e w5 ⟨rfl, hb5⟩
  refine hK.out _ _ (below_step hH.out hb5) ?_
  clear hH hK hb5 K
  intro hH
  try simp only [Act.put, List.setIfInBounds_toArray, List.set_cons_zero, List.set_cons_succ]
  iterate 1
    refine plan_add rfl (by rfl) _ _ _ _ rfl _ _ (by rfl) (by rfl) (by first | omega | (simp [mk_size]; omega)) ?_
    try simp only [Act.put, List.setIfInBounds_toArray, List.set_cons_zero, List.set_cons_succ]
  iterate 1
    refine plan_take (v := ?_) rfl (by rfl) ?_ ?_
    rotate_left
    · intro w2 hSw
      have x1 := (hSw.cell (p := ⟨g0, 1, none⟩) hg1).trans c1
      have x2 := (hSw.cell (p := ⟨g0, 2, none⟩) hg1).trans c2
      clear hSw
      go_simp
      try with_reducible rfl
    try simp only [Act.put, List.setIfInBounds_toArray, List.set_cons_zero, List.set_cons_succ]
  refine plan_done ?_
  have B9 := Lib.hid (B1.out.trans (hH.out.mono (show g0 ≤ wa.heap.size by omega)))
  clear hH
  go_wp2
  go_ret
  exact ⟨ret_str (bytes_eq HF.out), B9.out⟩
set_option maxHeartbeats 4000000 in
theorem refPrint27_k6 (d : Deed) (AB AC AK : Option Addr) (nB cB nC cC nK cK : Nat) (w : World) (hk : d.kind = 6)
    (hB : SliceIn w w.heap.size 1 AB nB cB (bytesV d.b)) (hC : SliceIn w w.heap.size 1 AC nC cC (intsV d.calls)) (hK : SliceIn w w.heap.size 1 AK nK cK (boolsV d.keep)) (hd : DeedN d) :
    Calls Try.prog 28 #[.agg (cells8 d (.slice AB nB cB) (.slice AC nC cC) (.slice AK nK cK)).toArray] w fun e w' => e = .returned (.string ⟨(printX d).toArray⟩) ∧ Below w.heap.size w w' := by
  rw [c8]
  obtain ⟨g0, hg0⟩ : ∃ g0, w.heap.size = g0 := ⟨_, rfl⟩
  obtain ⟨wa, hwa⟩ : ∃ wa, w.alloc (.cells (cells8 d (.slice AB nB cB) (.slice AC nC cC) (.slice AK nK cK)).toArray 53) = wa := ⟨_, rfl⟩
  rw [hg0]
  rw [hg0] at hB hC hK
  have hz1 : wa.heap.size = g0 + 1 := by rw [← hwa]; simp [hg0]
  have B1 : Hid (Below g0 w wa) := Lib.hid (by rw [← hwa]; exact (Below.refl _ _).alloc (by omega) _)
  have R1 : RowAt wa g0 53 (cells8 d (.slice AB nB cB) (.slice AC nC cC) (.slice AK nK cK)) := by rw [← hwa, ← hg0]; exact RowAt.new w _ _
  have HB := Lib.hid ((hB.below B1.out).more (show g0 ≤ wa.heap.size by omega))
  have HC := Lib.hid ((hC.below B1.out).more (show g0 ≤ wa.heap.size by omega))
  have HK := Lib.hid ((hK.below B1.out).more (show g0 ≤ wa.heap.size by omega))
  have lB : d.b.length = nB := by have := hB.1; rw [bytesV_length] at this; omega
  have lC : d.calls.length = nC := by have := hC.1; rw [intsV_length] at this; omega
  have lK : d.keep.length = nK := by have := hK.1; rw [boolsV_length] at this; omega
  have HD := Lib.hid hd
  have hnB : nB ≤ 10000000 := by have := hd.lb; omega
  have hnC : nC ≤ 1000000 := by have := hd.lc; omega
  have hnK : nK ≤ 1000000 := by have := hd.lk; omega
  rw [c8] at hwa
  have c0 := R1.cell (j := 0) rfl
  have c1 := R1.cell (j := 1) rfl
  have c2 := R1.cell (j := 2) rfl
  have c3 := R1.cell (j := 3) rfl
  have c4 := R1.cell (j := 4) rfl
  have c5 := R1.cell (j := 5) rfl
  have c6 := R1.cell (j := 6) rfl
  have c7 := R1.cell (j := 7) rfl
  have hg1 : g0 < wa.heap.size := by omega
  obtain ⟨X, hX⟩ : ∃ S : ByteArray, (⟨(numL d.n).toArray⟩ : ByteArray) = S := ⟨_, rfl⟩
  have zX : X.size ≤ 65 := by rw [← hX]; exact num_size HD.out.iN
  have lX : Hid (X.data.toList = numL d.n) := Lib.hid (by rw [← hX])
  have DX := Lib.hid (fun w => refDigits_any d.n HD.out.iN.1 HD.out.iN.2 w)
  rw [hX] at DX
  have LB := Lib.hid lB
  have LC := Lib.hid lC
  have LK := Lib.hid lK
  clear R1 hB hC hK lB lC lK hd
  have HF : Hid (((⟨#[116, 105, 99, 107, 32]⟩ : ByteArray) ++ X).data.toList = printX d) := Lib.hid (by
    rw [printX_in (by omega) (by omega)]
    simp only [printD, nameK, tailD, hk]
    simp [lX.out])
  rw [hk] at c0 hwa ⊢
  clear hk hX
  generalize d.n = xx at *
  go_enter Try.func28, Try.ntmps28
  go_wp2_with (go_at_call 40; refine (DX.out _).mono ?_; rintro e w2 ⟨rfl, hb2⟩)
  go_ret
  exact ⟨ret_str (bytes_eq HF.out), B1.out.trans (hb2.mono (by omega))⟩
set_option maxHeartbeats 4000000 in
theorem refPrint27_k7 (d : Deed) (AB AC AK : Option Addr) (nB cB nC cC nK cK : Nat) (w : World) (hk : d.kind = 7)
    (hB : SliceIn w w.heap.size 1 AB nB cB (bytesV d.b)) (hC : SliceIn w w.heap.size 1 AC nC cC (intsV d.calls)) (hK : SliceIn w w.heap.size 1 AK nK cK (boolsV d.keep)) (hd : DeedN d) :
    Calls Try.prog 28 #[.agg (cells8 d (.slice AB nB cB) (.slice AC nC cC) (.slice AK nK cK)).toArray] w fun e w' => e = .returned (.string ⟨(printX d).toArray⟩) ∧ Below w.heap.size w w' := by
  rw [c8]
  obtain ⟨g0, hg0⟩ : ∃ g0, w.heap.size = g0 := ⟨_, rfl⟩
  obtain ⟨wa, hwa⟩ : ∃ wa, w.alloc (.cells (cells8 d (.slice AB nB cB) (.slice AC nC cC) (.slice AK nK cK)).toArray 53) = wa := ⟨_, rfl⟩
  rw [hg0]
  rw [hg0] at hB hC hK
  have hz1 : wa.heap.size = g0 + 1 := by rw [← hwa]; simp [hg0]
  have B1 : Hid (Below g0 w wa) := Lib.hid (by rw [← hwa]; exact (Below.refl _ _).alloc (by omega) _)
  have R1 : RowAt wa g0 53 (cells8 d (.slice AB nB cB) (.slice AC nC cC) (.slice AK nK cK)) := by rw [← hwa, ← hg0]; exact RowAt.new w _ _
  have HB := Lib.hid ((hB.below B1.out).more (show g0 ≤ wa.heap.size by omega))
  have HC := Lib.hid ((hC.below B1.out).more (show g0 ≤ wa.heap.size by omega))
  have HK := Lib.hid ((hK.below B1.out).more (show g0 ≤ wa.heap.size by omega))
  have lB : d.b.length = nB := by have := hB.1; rw [bytesV_length] at this; omega
  have lC : d.calls.length = nC := by have := hC.1; rw [intsV_length] at this; omega
  have lK : d.keep.length = nK := by have := hK.1; rw [boolsV_length] at this; omega
  have HD := Lib.hid hd
  have hnB : nB ≤ 10000000 := by have := hd.lb; omega
  have hnC : nC ≤ 1000000 := by have := hd.lc; omega
  have hnK : nK ≤ 1000000 := by have := hd.lk; omega
  rw [c8] at hwa
  have c0 := R1.cell (j := 0) rfl
  have c1 := R1.cell (j := 1) rfl
  have c2 := R1.cell (j := 2) rfl
  have c3 := R1.cell (j := 3) rfl
  have c4 := R1.cell (j := 4) rfl
  have c5 := R1.cell (j := 5) rfl
  have c6 := R1.cell (j := 6) rfl
  have c7 := R1.cell (j := 7) rfl
  have hg1 : g0 < wa.heap.size := by omega
  have LB := Lib.hid lB
  have LC := Lib.hid lC
  have LK := Lib.hid lK
  clear R1 hB hC hK lB lC lK hd
  have HF : Hid (∀ T : ByteArray, T.data.toList = [102, 97, 105, 108] ++ (d.calls.flatMap fun n => 32 :: numL n) → T.data.toList = printX d) := Lib.hid (fun T h => by
    rw [h, printX_in (by omega) (by omega)]
    simp [printD, nameK, tailD, hk])
  rw [hk] at c0 hwa ⊢
  clear hk
  go_enter Try.func28, Try.ntmps28
  go_wp2
  go_loopw [3, 4] (fun s i wr => ∃ (k : Nat) (T : ByteArray), k ≤ nC ∧ i = .int .i64 k ∧ s = .string T ∧ T.data.toList = [102, 97, 105, 108] ++ ((d.calls.take k).flatMap fun n => 32 :: numL n) ∧ Below wa.heap.size wa wr) (fun _ i _ => nC - (intOf i).toNat)
  case atStart => exact ⟨0, ⟨#[102, 97, 105, 108]⟩, by omega, rfl, rfl, rfl, Below.refl _ _⟩
  case round =>
    obtain ⟨w0, rfl⟩ : ∃ w0 : World, w0 = wr := ⟨_, rfl⟩
    obtain ⟨k, T, hk, rfl, rfl, hT, hbel⟩ := hrel
    have hl1 := calls_length (d.calls.take k) (fun n hn => HD.out.ia n (List.mem_of_mem_take hn))
    have hl2 : (d.calls.take k).length ≤ 1000000 := by rw [List.length_take, LC.out]; omega
    have hTs : T.size ≤ 100000000 := by rw [← data_len, hT, List.length_append]; simp only [List.length_cons, List.length_nil]; omega
    have HT := Lib.hid hT
    have HB2 := Lib.hid hbel
    have c4' := (hbel.cell (p := ⟨g0, 4, none⟩) hg1).trans c4
    clear hT hl1 hl2 c0 c1 c2 c3 c5 c6 c7
    by_cases hlt : k < nC
    · obtain ⟨x, hx⟩ : ∃ x, d.calls[k]? = some x := ⟨_, List.getElem?_eq_getElem (by rw [LC.out]; exact hlt)⟩
      have hxi := HD.out.ia x (List.mem_of_getElem? hx)
      obtain ⟨b, off, rfl, hbl, hcc⟩ := HC.out.2.2.2 (by omega)
      have ck := (hbel.cell (p := ⟨b, off + k, none⟩) hbl).trans (hcc k (.int .i64 x) (by simp [intsV, hx]))
      obtain ⟨X, hX⟩ : ∃ S : ByteArray, (⟨(numL x).toArray⟩ : ByteArray) = S := ⟨_, rfl⟩
      have zX : X.size ≤ 65 := by rw [← hX]; exact num_size hxi
      have DX := Lib.hid (fun w => refDigits_any x hxi.1 hxi.2 w)
      rw [hX] at DX
      have HN : Hid ((T ++ (⟨#[32]⟩ : ByteArray) ++ X).data.toList = [102, 97, 105, 108] ++ ((d.calls.take (k + 1)).flatMap fun n => 32 :: numL n)) := Lib.hid (by
        rw [append_data, append_data, HT.out, List.take_add_one, hx, ← hX]
        simp)
      have ltI : (k : Int) < (nC : Int) := by omega
      clear hx hxi hcc hX hbel
      go_wp2_with (go_at_call 40; refine (DX.out _).mono ?_; rintro e w2 ⟨rfl, hb2⟩)
      go_roundw
      case rel => exact ⟨k + 1, _, by omega, by go_num, rfl, HN.out, below_step HB2.out hb2⟩
      case measure => simp [intOf]; omega
    · obtain rfl : nC = k := by omega
      have hta : d.calls.take nC = d.calls := List.take_of_length_le (by rw [LC.out]; exact Nat.le_refl _)
      rw [hta] at HT
      have HF2 := Lib.hid (HF.out T HT.out)
      clear hta hbel
      go_wp2
      go_ret
      exact ⟨ret_str (bytes_eq HF2.out), B1.out.trans (HB2.out.mono (by omega))⟩
set_option maxHeartbeats 4000000 in
theorem refPrint27_k8 (d : Deed) (AB AC AK : Option Addr) (nB cB nC cC nK cK : Nat) (w : World) (hk : d.kind = 8)
    (hB : SliceIn w w.heap.size 1 AB nB cB (bytesV d.b)) (hC : SliceIn w w.heap.size 1 AC nC cC (intsV d.calls)) (hK : SliceIn w w.heap.size 1 AK nK cK (boolsV d.keep)) (hd : DeedN d) :
    Calls Try.prog 28 #[.agg (cells8 d (.slice AB nB cB) (.slice AC nC cC) (.slice AK nK cK)).toArray] w fun e w' => e = .returned (.string ⟨(printX d).toArray⟩) ∧ Below w.heap.size w w' := by
  rw [c8]
  obtain ⟨g0, hg0⟩ : ∃ g0, w.heap.size = g0 := ⟨_, rfl⟩
  obtain ⟨wa, hwa⟩ : ∃ wa, w.alloc (.cells (cells8 d (.slice AB nB cB) (.slice AC nC cC) (.slice AK nK cK)).toArray 53) = wa := ⟨_, rfl⟩
  rw [hg0]
  rw [hg0] at hB hC hK
  have hz1 : wa.heap.size = g0 + 1 := by rw [← hwa]; simp [hg0]
  have B1 : Hid (Below g0 w wa) := Lib.hid (by rw [← hwa]; exact (Below.refl _ _).alloc (by omega) _)
  have R1 : RowAt wa g0 53 (cells8 d (.slice AB nB cB) (.slice AC nC cC) (.slice AK nK cK)) := by rw [← hwa, ← hg0]; exact RowAt.new w _ _
  have HB := Lib.hid ((hB.below B1.out).more (show g0 ≤ wa.heap.size by omega))
  have HC := Lib.hid ((hC.below B1.out).more (show g0 ≤ wa.heap.size by omega))
  have HK := Lib.hid ((hK.below B1.out).more (show g0 ≤ wa.heap.size by omega))
  have lB : d.b.length = nB := by have := hB.1; rw [bytesV_length] at this; omega
  have lC : d.calls.length = nC := by have := hC.1; rw [intsV_length] at this; omega
  have lK : d.keep.length = nK := by have := hK.1; rw [boolsV_length] at this; omega
  have HD := Lib.hid hd
  have hnB : nB ≤ 10000000 := by have := hd.lb; omega
  have hnC : nC ≤ 1000000 := by have := hd.lc; omega
  have hnK : nK ≤ 1000000 := by have := hd.lk; omega
  rw [c8] at hwa
  have c0 := R1.cell (j := 0) rfl
  have c1 := R1.cell (j := 1) rfl
  have c2 := R1.cell (j := 2) rfl
  have c3 := R1.cell (j := 3) rfl
  have c4 := R1.cell (j := 4) rfl
  have c5 := R1.cell (j := 5) rfl
  have c6 := R1.cell (j := 6) rfl
  have c7 := R1.cell (j := 7) rfl
  have hg1 : g0 < wa.heap.size := by omega
  obtain ⟨X, hX⟩ : ∃ S : ByteArray, (⟨(numL d.n).toArray⟩ : ByteArray) = S := ⟨_, rfl⟩
  have zX : X.size ≤ 65 := by rw [← hX]; exact num_size HD.out.iN
  have lX : Hid (X.data.toList = numL d.n) := Lib.hid (by rw [← hX])
  have DX := Lib.hid (fun w => refDigits_any d.n HD.out.iN.1 HD.out.iN.2 w)
  rw [hX] at DX
  have LB := Lib.hid lB
  have LC := Lib.hid lC
  have LK := Lib.hid lK
  clear R1 hB hC hK lB lC lK hd
  have HF : Hid (((⟨#[108, 105, 109, 105, 116, 32]⟩ : ByteArray) ++ X).data.toList = printX d) := Lib.hid (by
    rw [printX_in (by omega) (by omega)]
    simp only [printD, nameK, tailD, hk]
    simp [lX.out])
  rw [hk] at c0 hwa ⊢
  clear hk hX
  generalize d.n = xx at *
  go_enter Try.func28, Try.ntmps28
  go_wp2_with (go_at_call 40; refine (DX.out _).mono ?_; rintro e w2 ⟨rfl, hb2⟩)
  go_ret
  exact ⟨ret_str (bytes_eq HF.out), B1.out.trans (hb2.mono (by omega))⟩
set_option maxHeartbeats 4000000 in
theorem refPrint27_k9 (d : Deed) (AB AC AK : Option Addr) (nB cB nC cC nK cK : Nat) (w : World) (hk : d.kind = 9)
    (hB : SliceIn w w.heap.size 1 AB nB cB (bytesV d.b)) (hC : SliceIn w w.heap.size 1 AC nC cC (intsV d.calls)) (hK : SliceIn w w.heap.size 1 AK nK cK (boolsV d.keep)) (hd : DeedN d) :
    Calls Try.prog 28 #[.agg (cells8 d (.slice AB nB cB) (.slice AC nC cC) (.slice AK nK cK)).toArray] w fun e w' => e = .returned (.string ⟨(printX d).toArray⟩) ∧ Below w.heap.size w w' := by
  rw [c8]
  obtain ⟨g0, hg0⟩ : ∃ g0, w.heap.size = g0 := ⟨_, rfl⟩
  obtain ⟨wa, hwa⟩ : ∃ wa, w.alloc (.cells (cells8 d (.slice AB nB cB) (.slice AC nC cC) (.slice AK nK cK)).toArray 53) = wa := ⟨_, rfl⟩
  rw [hg0]
  rw [hg0] at hB hC hK
  have hz1 : wa.heap.size = g0 + 1 := by rw [← hwa]; simp [hg0]
  have B1 : Hid (Below g0 w wa) := Lib.hid (by rw [← hwa]; exact (Below.refl _ _).alloc (by omega) _)
  have R1 : RowAt wa g0 53 (cells8 d (.slice AB nB cB) (.slice AC nC cC) (.slice AK nK cK)) := by rw [← hwa, ← hg0]; exact RowAt.new w _ _
  have HB := Lib.hid ((hB.below B1.out).more (show g0 ≤ wa.heap.size by omega))
  have HC := Lib.hid ((hC.below B1.out).more (show g0 ≤ wa.heap.size by omega))
  have HK := Lib.hid ((hK.below B1.out).more (show g0 ≤ wa.heap.size by omega))
  have lB : d.b.length = nB := by have := hB.1; rw [bytesV_length] at this; omega
  have lC : d.calls.length = nC := by have := hC.1; rw [intsV_length] at this; omega
  have lK : d.keep.length = nK := by have := hK.1; rw [boolsV_length] at this; omega
  have HD := Lib.hid hd
  have hnB : nB ≤ 10000000 := by have := hd.lb; omega
  have hnC : nC ≤ 1000000 := by have := hd.lc; omega
  have hnK : nK ≤ 1000000 := by have := hd.lk; omega
  rw [c8] at hwa
  have c0 := R1.cell (j := 0) rfl
  have c1 := R1.cell (j := 1) rfl
  have c2 := R1.cell (j := 2) rfl
  have c3 := R1.cell (j := 3) rfl
  have c4 := R1.cell (j := 4) rfl
  have c5 := R1.cell (j := 5) rfl
  have c6 := R1.cell (j := 6) rfl
  have c7 := R1.cell (j := 7) rfl
  have hg1 : g0 < wa.heap.size := by omega
  obtain ⟨X, hX⟩ : ∃ S : ByteArray, (⟨(numL d.n).toArray⟩ : ByteArray) = S := ⟨_, rfl⟩
  have zX : X.size ≤ 65 := by rw [← hX]; exact num_size HD.out.iN
  have lX : Hid (X.data.toList = numL d.n) := Lib.hid (by rw [← hX])
  have DX := Lib.hid (fun w => refDigits_any d.n HD.out.iN.1 HD.out.iN.2 w)
  rw [hX] at DX
  obtain ⟨Y, hY⟩ : ∃ S : ByteArray, (⟨(numL d.torn).toArray⟩ : ByteArray) = S := ⟨_, rfl⟩
  have zY : Y.size ≤ 65 := by rw [← hY]; exact num_size HD.out.it
  have lY : Hid (Y.data.toList = numL d.torn) := Lib.hid (by rw [← hY])
  have DY := Lib.hid (fun w => refDigits_any d.torn HD.out.it.1 HD.out.it.2 w)
  rw [hY] at DY
  obtain ⟨Z, hZ⟩ : ∃ S : ByteArray, (⟨(numL d.part).toArray⟩ : ByteArray) = S := ⟨_, rfl⟩
  have zZ : Z.size ≤ 65 := by rw [← hZ]; exact num_size HD.out.ip
  have lZ : Hid (Z.data.toList = numL d.part) := Lib.hid (by rw [← hZ])
  have DZ := Lib.hid (fun w => refDigits_any d.part HD.out.ip.1 HD.out.ip.2 w)
  rw [hZ] at DZ
  have LB := Lib.hid lB
  have LC := Lib.hid lC
  have LK := Lib.hid lK
  clear R1 hB hC hK lB lC lK hd
  have HF : Hid (∀ T : ByteArray, T.data.toList = keepL d.keep → ((⟨#[99, 114, 97, 115, 104, 32]⟩ : ByteArray) ++ X ++ (⟨#[32]⟩ : ByteArray) ++ T ++ (⟨#[32]⟩ : ByteArray) ++ Y ++ (⟨#[32]⟩ : ByteArray) ++ Z).data.toList = printX d) := Lib.hid (fun T h => by
    rw [printX_in (by omega) (by omega)]
    simp only [printD, nameK, tailD, hk]
    simp [h, lX.out, lY.out, lZ.out])
  rw [hk] at c0 hwa ⊢
  clear hk hX hY hZ
  go_enter Try.func28, Try.ntmps28
  go_wp2
  go_loop [5, 6] (fun s i => ∃ (k : Nat) (T : ByteArray), k ≤ nK ∧ i = .int .i64 k ∧ s = .string T ∧ T.data.toList = (d.keep.take k).map (fun b => if b then 49 else 48)) (fun _ i => nK - (intOf i).toNat)
  case atStart => exact ⟨0, ⟨#[]⟩, by omega, rfl, rfl, rfl⟩
  case round =>
    obtain ⟨k, T, hk, rfl, rfl, hT⟩ := hrel
    have hTs : T.size ≤ 1000000 := by rw [← data_len, hT, List.length_map, List.length_take, LK.out]; omega
    have HT := Lib.hid hT
    clear hT
    by_cases hlt : k < nK
    · obtain ⟨x, hx⟩ : ∃ x, d.keep[k]? = some x := ⟨_, List.getElem?_eq_getElem (by rw [LK.out]; exact hlt)⟩
      obtain ⟨b, off, rfl, hbl, hcc⟩ := HK.out.2.2.2 (by omega)
      have ck := hcc k (.bool x) (by simp [boolsV, hx])
      have ltI : (k : Int) < (nK : Int) := by omega
      cases x
      · have HN : Hid ((T ++ (⟨#[48]⟩ : ByteArray)).data.toList = (d.keep.take (k + 1)).map (fun b => if b then 49 else 48)) := Lib.hid (by
          rw [append_data, HT.out, List.take_add_one, hx]; simp)
        clear hx hcc
        go_wp2
        go_round
        case rel => exact ⟨k + 1, _, by omega, by go_num, rfl, HN.out⟩
        case measure => simp [intOf]; omega
      · have HN : Hid ((T ++ (⟨#[49]⟩ : ByteArray)).data.toList = (d.keep.take (k + 1)).map (fun b => if b then 49 else 48)) := Lib.hid (by
          rw [append_data, HT.out, List.take_add_one, hx]; simp)
        clear hx hcc
        go_wp2
        go_round
        case rel => exact ⟨k + 1, _, by omega, by go_num, rfl, HN.out⟩
        case measure => simp [intOf]; omega
    · obtain rfl : nK = k := by omega
      have hta : d.keep.take nK = d.keep := List.take_of_length_le (by rw [LK.out]; exact Nat.le_refl _)
      rw [hta] at HT
      have key : ∃ (T' : ByteArray), T'.size ≤ 1000000 ∧ Hid (T'.data.toList = keepL d.keep) ∧ ((T.toList == []) = true ∧ T' = ⟨#[45]⟩ ∨ (T.toList == []) = false ∧ T' = T) := by
        by_cases h0 : d.keep = []
        · refine ⟨⟨#[45]⟩, by decide, Lib.hid (by rw [h0]; rfl), .inl ⟨?_, rfl⟩⟩
          rw [beq_iff_eq, ByteArray.toList_eq, HT.out, h0]; rfl
        · refine ⟨T, hTs, Lib.hid (by rw [HT.out]; unfold keepL; rw [if_neg h0]), .inr ⟨?_, rfl⟩⟩
          rw [beq_eq_false_iff_ne, ByteArray.toList_eq, HT.out]
          simpa using h0
      obtain ⟨T', hTs', HT', hor⟩ := key
      have HF2 := Lib.hid (HF.out T' HT'.out)
      clear hta HT HT' HF hTs
      rcases hor with ⟨h1, rfl⟩ | ⟨h1, rfl⟩
      all_goals
        go_upto_region 35 with fail
        refine wp_region_plan (fun W => Below wa.heap.size wa W) [(0, true), (1, true), (5, true), (8, true), (9, true), (10, true), (14, true), (15, true), (16, true), (2, false), (3, true), (4, true), (6, true), (7, true), (11, false), (12, true), (13, true), (17, false), (18, true), (19, true)] (by kernel_rfl) (by kernel_rfl) rfl (by kernel_rfl) (below_drewN (Below.refl _ _) 1) ?_
        intro w1 hH
        iterate 9
          refine plan_take (v := ?_) rfl (by rfl) ?_ ?_
          rotate_left
          · intro w2 hSw
            have x2 := (hSw.cell (p := ⟨g0, 2, none⟩) hg1).trans c2
            have x6 := (hSw.cell (p := ⟨g0, 6, none⟩) hg1).trans c6
            have x7 := (hSw.cell (p := ⟨g0, 7, none⟩) hg1).trans c7
            clear hSw
            go_simp
            try with_reducible rfl
          try simp only [Act.put, List.setIfInBounds_toArray, List.set_cons_zero, List.set_cons_succ]
        refine plan_move rfl (by rfl) (fun K hK => ?_)
        go_simp
        (with_reducible refine (DX.out _).mono ?_)
        rintro e w5 ⟨rfl, hb5⟩
        refine hK.out _ _ (below_step hH.out hb5) ?_
        clear hH hK hb5 K
        intro hH
        try simp only [Act.put, List.setIfInBounds_toArray, List.set_cons_zero, List.set_cons_succ]
        iterate 4
          refine plan_add rfl (by rfl) _ _ _ _ rfl _ _ (by rfl) (by rfl) (by first | omega | (simp [mk_size]; omega)) ?_
          try simp only [Act.put, List.setIfInBounds_toArray, List.set_cons_zero, List.set_cons_succ]
        refine plan_move rfl (by rfl) (fun K hK => ?_)
        go_simp
        (with_reducible refine (DY.out _).mono ?_)
        rintro e w5 ⟨rfl, hb5⟩
        refine hK.out _ _ (below_step hH.out hb5) ?_
        clear hH hK hb5 K
        intro hH
        try simp only [Act.put, List.setIfInBounds_toArray, List.set_cons_zero, List.set_cons_succ]
        iterate 2
          refine plan_add rfl (by rfl) _ _ _ _ rfl _ _ (by rfl) (by rfl) (by first | omega | (simp [mk_size]; omega)) ?_
          try simp only [Act.put, List.setIfInBounds_toArray, List.set_cons_zero, List.set_cons_succ]
        refine plan_move rfl (by rfl) (fun K hK => ?_)
        go_simp
        (with_reducible refine (DZ.out _).mono ?_)
        rintro e w5 ⟨rfl, hb5⟩
        refine hK.out _ _ (below_step hH.out hb5) ?_
        clear hH hK hb5 K
        intro hH
        try simp only [Act.put, List.setIfInBounds_toArray, List.set_cons_zero, List.set_cons_succ]
        iterate 1
          refine plan_add rfl (by rfl) _ _ _ _ rfl _ _ (by rfl) (by rfl) (by first | omega | (simp [mk_size]; omega)) ?_
          try simp only [Act.put, List.setIfInBounds_toArray, List.set_cons_zero, List.set_cons_succ]
        iterate 1
          refine plan_take (v := ?_) rfl (by rfl) ?_ ?_
          rotate_left
          · intro w2 hSw
            have x2 := (hSw.cell (p := ⟨g0, 2, none⟩) hg1).trans c2
            have x6 := (hSw.cell (p := ⟨g0, 6, none⟩) hg1).trans c6
            have x7 := (hSw.cell (p := ⟨g0, 7, none⟩) hg1).trans c7
            clear hSw
            go_simp
            try with_reducible rfl
          try simp only [Act.put, List.setIfInBounds_toArray, List.set_cons_zero, List.set_cons_succ]
        refine plan_done ?_
        have B9 := Lib.hid (B1.out.trans (hH.out.mono (show g0 ≤ wa.heap.size by omega)))
        clear hH
        go_wp2
        go_ret
        exact ⟨ret_str (bytes_eq HF2.out), B9.out⟩
set_option maxHeartbeats 4000000 in
theorem refPrint27_k10 (d : Deed) (AB AC AK : Option Addr) (nB cB nC cC nK cK : Nat) (w : World) (hk : d.kind = 10)
    (hB : SliceIn w w.heap.size 1 AB nB cB (bytesV d.b)) (hC : SliceIn w w.heap.size 1 AC nC cC (intsV d.calls)) (hK : SliceIn w w.heap.size 1 AK nK cK (boolsV d.keep)) (hd : DeedN d) :
    Calls Try.prog 28 #[.agg (cells8 d (.slice AB nB cB) (.slice AC nC cC) (.slice AK nK cK)).toArray] w fun e w' => e = .returned (.string ⟨(printX d).toArray⟩) ∧ Below w.heap.size w w' := by
  rw [c8]
  obtain ⟨g0, hg0⟩ : ∃ g0, w.heap.size = g0 := ⟨_, rfl⟩
  obtain ⟨wa, hwa⟩ : ∃ wa, w.alloc (.cells (cells8 d (.slice AB nB cB) (.slice AC nC cC) (.slice AK nK cK)).toArray 53) = wa := ⟨_, rfl⟩
  rw [hg0]
  rw [hg0] at hB hC hK
  have hz1 : wa.heap.size = g0 + 1 := by rw [← hwa]; simp [hg0]
  have B1 : Hid (Below g0 w wa) := Lib.hid (by rw [← hwa]; exact (Below.refl _ _).alloc (by omega) _)
  have R1 : RowAt wa g0 53 (cells8 d (.slice AB nB cB) (.slice AC nC cC) (.slice AK nK cK)) := by rw [← hwa, ← hg0]; exact RowAt.new w _ _
  have HB := Lib.hid ((hB.below B1.out).more (show g0 ≤ wa.heap.size by omega))
  have HC := Lib.hid ((hC.below B1.out).more (show g0 ≤ wa.heap.size by omega))
  have HK := Lib.hid ((hK.below B1.out).more (show g0 ≤ wa.heap.size by omega))
  have lB : d.b.length = nB := by have := hB.1; rw [bytesV_length] at this; omega
  have lC : d.calls.length = nC := by have := hC.1; rw [intsV_length] at this; omega
  have lK : d.keep.length = nK := by have := hK.1; rw [boolsV_length] at this; omega
  have HD := Lib.hid hd
  have hnB : nB ≤ 10000000 := by have := hd.lb; omega
  have hnC : nC ≤ 1000000 := by have := hd.lc; omega
  have hnK : nK ≤ 1000000 := by have := hd.lk; omega
  rw [c8] at hwa
  have c0 := R1.cell (j := 0) rfl
  have c1 := R1.cell (j := 1) rfl
  have c2 := R1.cell (j := 2) rfl
  have c3 := R1.cell (j := 3) rfl
  have c4 := R1.cell (j := 4) rfl
  have c5 := R1.cell (j := 5) rfl
  have c6 := R1.cell (j := 6) rfl
  have c7 := R1.cell (j := 7) rfl
  have hg1 : g0 < wa.heap.size := by omega
  have LB := Lib.hid lB
  have LC := Lib.hid lC
  have LK := Lib.hid lK
  clear R1 hB hC hK lB lC lK hd
  have HF : Hid ((⟨#[115, 121, 110, 99]⟩ : ByteArray).data.toList = printX d) := Lib.hid (by
    rw [printX_in (by omega) (by omega)]
    simp [printD, nameK, tailD, hk])
  rw [hk] at c0 hwa ⊢
  clear hk
  go_enter Try.func28, Try.ntmps28
  go_wp2
  go_ret
  exact ⟨ret_str (bytes_eq HF.out), B1.out⟩
set_option maxHeartbeats 4000000 in
theorem refPrint27_no (d : Deed) (AB AC AK : Option Addr) (nB cB nC cC nK cK : Nat) (w : World) (hk : ¬ (0 ≤ d.kind ∧ d.kind ≤ 10))
    (hB : SliceIn w w.heap.size 1 AB nB cB (bytesV d.b)) (hC : SliceIn w w.heap.size 1 AC nC cC (intsV d.calls)) (hK : SliceIn w w.heap.size 1 AK nK cK (boolsV d.keep)) (hd : DeedN d) :
    Calls Try.prog 28 #[.agg (cells8 d (.slice AB nB cB) (.slice AC nC cC) (.slice AK nK cK)).toArray] w fun e w' => e = .returned (.string ⟨(printX d).toArray⟩) ∧ Below w.heap.size w w' := by
  rw [c8]
  obtain ⟨g0, hg0⟩ : ∃ g0, w.heap.size = g0 := ⟨_, rfl⟩
  obtain ⟨wa, hwa⟩ : ∃ wa, w.alloc (.cells (cells8 d (.slice AB nB cB) (.slice AC nC cC) (.slice AK nK cK)).toArray 53) = wa := ⟨_, rfl⟩
  rw [hg0]
  rw [hg0] at hB hC hK
  have hz1 : wa.heap.size = g0 + 1 := by rw [← hwa]; simp [hg0]
  have B1 : Hid (Below g0 w wa) := Lib.hid (by rw [← hwa]; exact (Below.refl _ _).alloc (by omega) _)
  have R1 : RowAt wa g0 53 (cells8 d (.slice AB nB cB) (.slice AC nC cC) (.slice AK nK cK)) := by rw [← hwa, ← hg0]; exact RowAt.new w _ _
  have HB := Lib.hid ((hB.below B1.out).more (show g0 ≤ wa.heap.size by omega))
  have HC := Lib.hid ((hC.below B1.out).more (show g0 ≤ wa.heap.size by omega))
  have HK := Lib.hid ((hK.below B1.out).more (show g0 ≤ wa.heap.size by omega))
  have lB : d.b.length = nB := by have := hB.1; rw [bytesV_length] at this; omega
  have lC : d.calls.length = nC := by have := hC.1; rw [intsV_length] at this; omega
  have lK : d.keep.length = nK := by have := hK.1; rw [boolsV_length] at this; omega
  have HD := Lib.hid hd
  have hnB : nB ≤ 10000000 := by have := hd.lb; omega
  have hnC : nC ≤ 1000000 := by have := hd.lc; omega
  have hnK : nK ≤ 1000000 := by have := hd.lk; omega
  rw [c8] at hwa
  have c0 := R1.cell (j := 0) rfl
  have c1 := R1.cell (j := 1) rfl
  have c2 := R1.cell (j := 2) rfl
  have c3 := R1.cell (j := 3) rfl
  have c4 := R1.cell (j := 4) rfl
  have c5 := R1.cell (j := 5) rfl
  have c6 := R1.cell (j := 6) rfl
  have c7 := R1.cell (j := 7) rfl
  have hg1 : g0 < wa.heap.size := by omega
  have LB := Lib.hid lB
  have LC := Lib.hid lC
  have LK := Lib.hid lK
  clear R1 hB hC hK lB lC lK hd
  have HF : Hid ((⟨#[]⟩ : ByteArray).data.toList = printX d) := Lib.hid (by unfold printX; rw [if_neg hk])
  have e0 : (d.kind == 0) = false := by rw [beq_eq_false_iff_ne]; omega
  have e1 : (d.kind == 1) = false := by rw [beq_eq_false_iff_ne]; omega
  have e2 : (d.kind == 2) = false := by rw [beq_eq_false_iff_ne]; omega
  have e3 : (d.kind == 3) = false := by rw [beq_eq_false_iff_ne]; omega
  have e4 : (d.kind == 4) = false := by rw [beq_eq_false_iff_ne]; omega
  have e5 : (d.kind == 5) = false := by rw [beq_eq_false_iff_ne]; omega
  have e6 : (d.kind == 6) = false := by rw [beq_eq_false_iff_ne]; omega
  have e7 : (d.kind == 7) = false := by rw [beq_eq_false_iff_ne]; omega
  have e8 : (d.kind == 8) = false := by rw [beq_eq_false_iff_ne]; omega
  have e9 : (d.kind == 9) = false := by rw [beq_eq_false_iff_ne]; omega
  have e10 : (d.kind == 10) = false := by rw [beq_eq_false_iff_ne]; omega
  clear hk
  generalize d.kind = kk at *
  go_enter Try.func28, Try.ntmps28
  go_wp2
  go_ret
  exact ⟨ret_str (bytes_eq HF.out), B1.out⟩
theorem refPrint27_any (d : Deed) (AB AC AK : Option Addr) (nB cB nC cC nK cK : Nat) (w : World)
    (hB : SliceIn w w.heap.size 1 AB nB cB (bytesV d.b)) (hC : SliceIn w w.heap.size 1 AC nC cC (intsV d.calls)) (hK : SliceIn w w.heap.size 1 AK nK cK (boolsV d.keep)) (hd : DeedN d) :
    Calls Try.prog 28 #[.agg (cells8 d (.slice AB nB cB) (.slice AC nC cC) (.slice AK nK cK)).toArray] w fun e w' => e = .returned (.string ⟨(printX d).toArray⟩) ∧ Below w.heap.size w w' := by
  by_cases h : 0 ≤ d.kind ∧ d.kind ≤ 10
  · have h11 : d.kind = 0 ∨ d.kind = 1 ∨ d.kind = 2 ∨ d.kind = 3 ∨ d.kind = 4 ∨ d.kind = 5 ∨ d.kind = 6 ∨ d.kind = 7 ∨ d.kind = 8 ∨ d.kind = 9 ∨ d.kind = 10 := by omega
    rcases h11 with h | h | h | h | h | h | h | h | h | h | h
    · exact refPrint27_k0 d AB AC AK nB cB nC cC nK cK w h hB hC hK hd
    · exact refPrint27_k1 d AB AC AK nB cB nC cC nK cK w h hB hC hK hd
    · exact refPrint27_k2 d AB AC AK nB cB nC cC nK cK w h hB hC hK hd
    · exact refPrint27_k3 d AB AC AK nB cB nC cC nK cK w h hB hC hK hd
    · exact refPrint27_k4 d AB AC AK nB cB nC cC nK cK w h hB hC hK hd
    · exact refPrint27_k5 d AB AC AK nB cB nC cC nK cK w h hB hC hK hd
    · exact refPrint27_k6 d AB AC AK nB cB nC cC nK cK w h hB hC hK hd
    · exact refPrint27_k7 d AB AC AK nB cB nC cC nK cK w h hB hC hK hd
    · exact refPrint27_k8 d AB AC AK nB cB nC cC nK cK w h hB hC hK hd
    · exact refPrint27_k9 d AB AC AK nB cB nC cC nK cK w h hB hC hK hd
    · exact refPrint27_k10 d AB AC AK nB cB nC cC nK cK w h hB hC hK hd
  · exact refPrint27_no d AB AC AK nB cB nC cC nK cK w h hB hC hK hd
end Go.Proofs.Ytmcioedmjcbfbaa
