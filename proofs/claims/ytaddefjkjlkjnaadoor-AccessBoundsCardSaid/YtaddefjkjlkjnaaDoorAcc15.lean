/- Walk of icehouseref28.Line: one reply as the document's line. Condition: texts are within bounds, numbers are ints. -/
import Derived.Test.YtaddefjkjlkjnaaDoorAcc14
import Derived.Test.YtaddefjkjlkjnaaDoorOct10
import Derived.Test.YtaddefjkjlkjnaaDoorKt
namespace Go.Proofs.YtaddefjkjlkjnaaDoor
open Go.RowKit IH
set_option maxRecDepth 100000

theorem letter_of (l : List UInt8) (n : Nat) (h : l.length ≤ n) : ∃ S : ByteArray, (⟨l.toArray⟩ : ByteArray) = S ∧ Hid (S.data.toList = l) ∧ S.size ≤ n := ⟨_, rfl, Lib.hid rfl, h⟩
theorem line28_flat (t : Reply) : line28 t = d10 t.moment ++ [32] ++ d10 t.conn ++ [32] ++ word28 t.kind ++ [32] ++ dash28 t.method ++ [32] ++ dash28 t.uri ++ [32] ++ d10 t.status ++ [32] ++ d10 t.age ++ [32] ++ d10 t.lines ++ [32] ++ quote27 t.key ++ [10] := by
  simp [line28, words28, Lib.join, List.intercalate]

set_option maxHeartbeats 16000000 in
theorem refLine28_any (t : Reply) (w : World) (hn : ints28 t) (hs : Small28 t) :
    Calls Tryd.prog 26 #[.agg (toldCells t).toArray] w fun e w' => e = .returned (.string ⟨(line28 t).toArray⟩) ∧ Below w.heap.size w w' := by
  obtain ⟨tc, tk, tm, tl, tme, tu, tke, ts, ta⟩ := t
  obtain ⟨bm, bu, bk⟩ := hs
  obtain ⟨⟨_, a1⟩, ⟨_, a2⟩, ⟨_, a3⟩, ⟨_, a4⟩, ⟨_, a5⟩⟩ := hn
  have hfl := line28_flat ⟨tc, tk, tm, tl, tme, tu, tke, ts, ta⟩
  simp only at bm bu bk a1 a2 a3 a4 a5 hfl
  obtain ⟨P1, p1, H1, z1⟩ := letter_of (d10 tm) 64 (d10_length tm)
  obtain ⟨P2, p2, H2, z2⟩ := letter_of (d10 tc) 64 (d10_length tc)
  obtain ⟨P3, p3, H3, z3⟩ := letter_of (word28 tk) 5 (word28_length tk)
  obtain ⟨P4, p4, H4, z4⟩ := letter_of (dash28 tme) 1000001 (Nat.le_trans (dash28_length tme) (by omega))
  obtain ⟨P5, p5, H5, z5⟩ := letter_of (dash28 tu) 1000001 (Nat.le_trans (dash28_length tu) (by omega))
  obtain ⟨P6, p6, H6, z6⟩ := letter_of (d10 ts) 64 (d10_length ts)
  obtain ⟨P7, p7, H7, z7⟩ := letter_of (d10 ta) 64 (d10_length ta)
  obtain ⟨P8, p8, H8, z8⟩ := letter_of (d10 tl) 64 (d10_length tl)
  obtain ⟨P9, p9, H9, z9⟩ := letter_of (quote27 tke) 4000002 (Nat.le_trans (quote27_length tke) (by omega))
  obtain ⟨Sk, pk, HSk, zk⟩ := letter_of tke 1000000 bk
  obtain ⟨Sm, pm, _, _⟩ := letter_of tme 1000000 bm
  obtain ⟨Su, pu, _, _⟩ := letter_of tu 1000000 bu
  have c1 := fun w => refPrint_any tm 10 a1 w
  have c2 := fun w => refPrint_any tc 10 a2 w
  have c3 := fun w => refWord_any tk w
  have c4 := fun w => refOr_any tme w
  have c5 := fun w => refOr_any tu w
  have c6 := fun w => refPrint_any ts 10 a3 w
  have c7 := fun w => refPrint_any ta 10 a4 w
  have c8 := fun w => refPrint_any tl 10 a5 w
  rw [show printN tm 10 = d10 tm from rfl, p1] at c1
  rw [show printN tc 10 = d10 tc from rfl, p2] at c2
  rw [p3] at c3
  rw [pm, p4] at c4
  rw [pu, p5] at c5
  rw [show printN ts 10 = d10 ts from rfl, p6] at c6
  rw [show printN ta 10 = d10 ta from rfl, p7] at c7
  rw [show printN tl 10 = d10 tl from rfl, p8] at c8
  have HF : Hid ((P1 ++ (⟨#[32]⟩ : ByteArray) ++ P2 ++ ⟨#[32]⟩ ++ P3 ++ ⟨#[32]⟩ ++ P4 ++ ⟨#[32]⟩ ++ P5 ++ ⟨#[32]⟩ ++ P6 ++ ⟨#[32]⟩ ++ P7 ++ ⟨#[32]⟩ ++ P8 ++ ⟨#[32]⟩ ++ P9 ++ ⟨#[10]⟩).data.toList = line28 ⟨tc, tk, tm, tl, tme, tu, tke, ts, ta⟩) := Lib.hid (by
    rw [hfl]
    simp [H1.out, H2.out, H3.out, H4.out, H5.out, H6.out, H7.out, H8.out, H9.out])
  obtain ⟨LN, hLN⟩ : ∃ l, line28 ⟨tc, tk, tm, tl, tme, tu, tke, ts, ta⟩ = l := ⟨_, rfl⟩
  rw [hLN] at HF ⊢
  simp only [toldCells]
  rw [pm, pu, pk]
  have C1 := Lib.hid c1
  have C2 := Lib.hid c2
  have C3 := Lib.hid c3
  have C4 := Lib.hid c4
  have C5 := Lib.hid c5
  have C6 := Lib.hid c6
  have C7 := Lib.hid c7
  have C8 := Lib.hid c8
  have HP9 := Lib.hid p9
  obtain ⟨g0, hg0⟩ : ∃ g0, w.heap.size = g0 := ⟨_, rfl⟩
  obtain ⟨wa, hwa⟩ : ∃ wa, w.alloc (.cells #[.int .i64 tc, .int .i64 tk, .int .i64 tm, .int .i64 tl, .string Sm, .string Su, .string Sk, .int .i64 ts, .int .i64 ta] 48) = wa := ⟨_, rfl⟩
  rw [hg0]
  have hza : wa.heap.size = g0 + 1 := by rw [← hwa]; simp [hg0]
  have BA : Hid (Below g0 w wa) := Lib.hid (by rw [← hwa]; exact (Below.refl _ _).alloc (by omega) _)
  have R1 : RowAt wa g0 48 [.int .i64 tc, .int .i64 tk, .int .i64 tm, .int .i64 tl, .string Sm, .string Su, .string Sk, .int .i64 ts, .int .i64 ta] := by rw [← hwa, ← hg0]; exact RowAt.new w _ [.int .i64 tc, .int .i64 tk, .int .i64 tm, .int .i64 tl, .string Sm, .string Su, .string Sk, .int .i64 ts, .int .i64 ta]
  have r0 := R1.cell (j := 0) rfl
  have r1 := R1.cell (j := 1) rfl
  have r2 := R1.cell (j := 2) rfl
  have r3 := R1.cell (j := 3) rfl
  have r4 := R1.cell (j := 4) rfl
  have r5 := R1.cell (j := 5) rfl
  have r6 := R1.cell (j := 6) rfl
  have r7 := R1.cell (j := 7) rfl
  have r8 := R1.cell (j := 8) rfl
  have hg1 : g0 < wa.heap.size := by omega
  clear R1 hfl hLN bm bu bk a1 a2 a3 a4 a5 p1 p2 p3 p4 p5 p6 p7 p8 p9 pk pm pu c1 c2 c3 c4 c5 c6 c7 c8 H1 H2 H3 H4 H5 H6 H7 H8 H9
  go_enter Tryd.func26, Tryd.ntmps26
  go_upto_region 1 with fail
  refine wp_region_plan (fun W => Below wa.heap.size wa W) [(0, true), (1, true), (4, true), (5, true), (9, true), (10, true), (14, true), (15, true), (19, true), (20, true), (2, false), (3, true), (6, false), (7, true), (8, true), (11, false), (12, true), (13, true), (16, false), (17, true), (18, true), (21, false), (22, true), (23, true), (24, true)] (by kernel_rfl) (by kernel_rfl) rfl (by kernel_rfl) (below_drewN (Below.refl _ _) 1) ?_
  intro w1 hH
  iterate 10
    refine plan_take (v := ?_) rfl (by rfl) ?_ ?_
    rotate_left
    · intro w2 hSw
      have x0 := (hSw.cell (p := ⟨g0, 0, none⟩) hg1).trans r0
      have x1 := (hSw.cell (p := ⟨g0, 1, none⟩) hg1).trans r1
      have x2 := (hSw.cell (p := ⟨g0, 2, none⟩) hg1).trans r2
      have x4 := (hSw.cell (p := ⟨g0, 4, none⟩) hg1).trans r4
      have x5 := (hSw.cell (p := ⟨g0, 5, none⟩) hg1).trans r5
      clear hSw
      go_simp
      try with_reducible rfl
    try simp only [Act.put, List.setIfInBounds_toArray, List.set_cons_zero, List.set_cons_succ]
  refine plan_move rfl (by rfl) (fun K hK => ?_)
  go_simp
  (with_reducible refine (C1.out _).mono ?_)
  rintro e w5 ⟨rfl, hb5⟩
  refine hK.out _ _ (below_step hH.out hb5) ?_
  clear hH hK hb5 K
  intro hH
  try simp only [Act.put, List.setIfInBounds_toArray, List.set_cons_zero, List.set_cons_succ]
  iterate 1
    refine plan_add rfl (by rfl) _ _ _ _ rfl _ _ (by rfl) (by rfl) (by first | omega | (simp [mk_size]; omega)) ?_
    try simp only [Act.put, List.setIfInBounds_toArray, List.set_cons_zero, List.set_cons_succ]
  refine plan_move rfl (by rfl) (fun K hK => ?_)
  go_simp
  (with_reducible refine (C2.out _).mono ?_)
  rintro e w5 ⟨rfl, hb5⟩
  refine hK.out _ _ (below_step hH.out hb5) ?_
  clear hH hK hb5 K
  intro hH
  try simp only [Act.put, List.setIfInBounds_toArray, List.set_cons_zero, List.set_cons_succ]
  iterate 2
    refine plan_add rfl (by rfl) _ _ _ _ rfl _ _ (by rfl) (by rfl) (by first | omega | (simp [mk_size]; omega)) ?_
    try simp only [Act.put, List.setIfInBounds_toArray, List.set_cons_zero, List.set_cons_succ]
  refine plan_move rfl (by rfl) (fun K hK => ?_)
  go_simp
  (with_reducible refine (C3.out _).mono ?_)
  rintro e w5 ⟨rfl, hb5⟩
  refine hK.out _ _ (below_step hH.out hb5) ?_
  clear hH hK hb5 K
  intro hH
  try simp only [Act.put, List.setIfInBounds_toArray, List.set_cons_zero, List.set_cons_succ]
  iterate 2
    refine plan_add rfl (by rfl) _ _ _ _ rfl _ _ (by rfl) (by rfl) (by first | omega | (simp [mk_size]; omega)) ?_
    try simp only [Act.put, List.setIfInBounds_toArray, List.set_cons_zero, List.set_cons_succ]
  refine plan_move rfl (by rfl) (fun K hK => ?_)
  go_simp
  (with_reducible refine (C4.out _).mono ?_)
  rintro e w5 ⟨rfl, rfl⟩
  refine hK.out _ _ (hH.out) ?_
  clear hH hK K
  intro hH
  try simp only [Act.put, List.setIfInBounds_toArray, List.set_cons_zero, List.set_cons_succ]
  iterate 2
    refine plan_add rfl (by rfl) _ _ _ _ rfl _ _ (by rfl) (by rfl) (by first | omega | (simp [mk_size]; omega)) ?_
    try simp only [Act.put, List.setIfInBounds_toArray, List.set_cons_zero, List.set_cons_succ]
  refine plan_move rfl (by rfl) (fun K hK => ?_)
  go_simp
  (with_reducible refine (C5.out _).mono ?_)
  rintro e w5 ⟨rfl, rfl⟩
  refine hK.out _ _ (hH.out) ?_
  clear hH hK K
  intro hH
  try simp only [Act.put, List.setIfInBounds_toArray, List.set_cons_zero, List.set_cons_succ]
  iterate 2
    refine plan_add rfl (by rfl) _ _ _ _ rfl _ _ (by rfl) (by rfl) (by first | omega | (simp [mk_size]; omega)) ?_
    try simp only [Act.put, List.setIfInBounds_toArray, List.set_cons_zero, List.set_cons_succ]
  iterate 1
    refine plan_take (v := ?_) rfl (by rfl) ?_ ?_
    rotate_left
    · intro w2 hSw
      have x0 := (hSw.cell (p := ⟨g0, 0, none⟩) hg1).trans r0
      have x1 := (hSw.cell (p := ⟨g0, 1, none⟩) hg1).trans r1
      have x2 := (hSw.cell (p := ⟨g0, 2, none⟩) hg1).trans r2
      have x4 := (hSw.cell (p := ⟨g0, 4, none⟩) hg1).trans r4
      have x5 := (hSw.cell (p := ⟨g0, 5, none⟩) hg1).trans r5
      clear hSw
      go_simp
      try with_reducible rfl
    try simp only [Act.put, List.setIfInBounds_toArray, List.set_cons_zero, List.set_cons_succ]
  refine plan_done ?_
  have BB := Lib.hid hH.out
  clear hH
  go_upto_region 2 with fail
  refine wp_region_plan (fun W => Below wa.heap.size wa W) [(0, true), (1, true), (2, true), (6, true), (7, true), (11, true), (12, true), (3, false), (4, true), (5, true), (8, false), (9, true), (10, true), (13, false), (14, true), (15, true), (16, true)] (by kernel_rfl) (by kernel_rfl) rfl (by kernel_rfl) (below_drewN BB.out 1) ?_
  intro w1 hH
  iterate 7
    refine plan_take (v := ?_) rfl (by rfl) ?_ ?_
    rotate_left
    · intro w2 hSw
      have x3 := (hSw.cell (p := ⟨g0, 3, none⟩) hg1).trans r3
      have x7 := (hSw.cell (p := ⟨g0, 7, none⟩) hg1).trans r7
      have x8 := (hSw.cell (p := ⟨g0, 8, none⟩) hg1).trans r8
      clear hSw
      go_simp
      try with_reducible rfl
    try simp only [Act.put, List.setIfInBounds_toArray, List.set_cons_zero, List.set_cons_succ]
  refine plan_move rfl (by rfl) (fun K hK => ?_)
  go_simp
  (with_reducible refine (C6.out _).mono ?_)
  rintro e w5 ⟨rfl, hb5⟩
  refine hK.out _ _ (below_step hH.out hb5) ?_
  clear hH hK hb5 K
  intro hH
  try simp only [Act.put, List.setIfInBounds_toArray, List.set_cons_zero, List.set_cons_succ]
  iterate 2
    refine plan_add rfl (by rfl) _ _ _ _ rfl _ _ (by rfl) (by rfl) (by first | omega | (simp [mk_size]; omega)) ?_
    try simp only [Act.put, List.setIfInBounds_toArray, List.set_cons_zero, List.set_cons_succ]
  refine plan_move rfl (by rfl) (fun K hK => ?_)
  go_simp
  (with_reducible refine (C7.out _).mono ?_)
  rintro e w5 ⟨rfl, hb5⟩
  refine hK.out _ _ (below_step hH.out hb5) ?_
  clear hH hK hb5 K
  intro hH
  try simp only [Act.put, List.setIfInBounds_toArray, List.set_cons_zero, List.set_cons_succ]
  iterate 2
    refine plan_add rfl (by rfl) _ _ _ _ rfl _ _ (by rfl) (by rfl) (by first | omega | (simp [mk_size]; omega)) ?_
    try simp only [Act.put, List.setIfInBounds_toArray, List.set_cons_zero, List.set_cons_succ]
  refine plan_move rfl (by rfl) (fun K hK => ?_)
  go_simp
  (with_reducible refine (C8.out _).mono ?_)
  rintro e w5 ⟨rfl, hb5⟩
  refine hK.out _ _ (below_step hH.out hb5) ?_
  clear hH hK hb5 K
  intro hH
  try simp only [Act.put, List.setIfInBounds_toArray, List.set_cons_zero, List.set_cons_succ]
  iterate 2
    refine plan_add rfl (by rfl) _ _ _ _ rfl _ _ (by rfl) (by rfl) (by first | omega | (simp [mk_size]; omega)) ?_
    try simp only [Act.put, List.setIfInBounds_toArray, List.set_cons_zero, List.set_cons_succ]
  iterate 1
    refine plan_take (v := ?_) rfl (by rfl) ?_ ?_
    rotate_left
    · intro w2 hSw
      have x3 := (hSw.cell (p := ⟨g0, 3, none⟩) hg1).trans r3
      have x7 := (hSw.cell (p := ⟨g0, 7, none⟩) hg1).trans r7
      have x8 := (hSw.cell (p := ⟨g0, 8, none⟩) hg1).trans r8
      clear hSw
      go_simp
      try with_reducible rfl
    try simp only [Act.put, List.setIfInBounds_toArray, List.set_cons_zero, List.set_cons_succ]
  refine plan_done ?_
  have BC := Lib.hid hH.out
  clear hH BB
  obtain ⟨wc, rfl⟩ : ∃ W : World, W = w5 := ⟨_, rfl⟩
  have x6 := (BC.out.cell (p := ⟨g0, 6, none⟩) hg1).trans r6
  have hcv := Lib.run_convert_string_bytes (P := Tryd.prog) wc 9 22 5 Sk Tryd.underlying9 Tryd.underlying22 Tryd.underlying5
  have hq := slice_bytesWorld wc 5 Sk (by omega)
  have QQ := refQuote_any _ _ _ Sk.data.toList _ hq (by omega)
  rw [HSk.out, HP9.out] at QQ
  have HQ := Lib.hid QQ
  have BD : Hid (Below wa.heap.size wa (Lib.bytesWorld wc 5 Sk)) := Lib.hid (BC.out.trans ((below_bytesWorld wc _ _).mono BC.out.size))
  clear hq QQ
  go_wp2_with (go_at_call 72; refine HQ.out.mono ?_; rintro e w9 ⟨rfl, hb9⟩; have B9 := Lib.hid (below_step BD.out hb9))
  go_ret
  exact ⟨ret_str (bytes_eq HF.out), BA.out.trans (B9.out.mono (by omega))⟩
end Go.Proofs.YtaddefjkjlkjnaaDoor
