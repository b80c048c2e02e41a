/- Walks of layer 27: lists of deeds compared (one list with itself). Condition: at most 10^6 deeds, slices as they may be. -/
import Derived.Test.YtmcioedmjcbfbaaScr23
namespace Go.Proofs.Ytmcioedmjcbfbaa
open Go.RowKit IH
set_option maxRecDepth 100000
/-- Bounds of a deed's slices. -/
def DeedS (d : Deed) : Prop := d.calls.length ≤ 1000000000 ∧ d.keep.length ≤ 1000000000
theorem deed_cells {w : World} {b off : Nat} {d : Deed} {vB vC vK : Value} (h : ∀ j u, (cells8 d vB vC vK)[j]? = some u → w.cell? ⟨b, off + j, none⟩ = some u) :
    w.cell? ⟨b, off, none⟩ = some (.int .i64 d.kind) ∧ w.cell? ⟨b, off + 1, none⟩ = some (.int .i64 d.conn) ∧ w.cell? ⟨b, off + 2, none⟩ = some (.int .i64 d.n) ∧ w.cell? ⟨b, off + 3, none⟩ = some vB ∧
      w.cell? ⟨b, off + 4, none⟩ = some vC ∧ w.cell? ⟨b, off + 5, none⟩ = some vK ∧ w.cell? ⟨b, off + 6, none⟩ = some (.int .i64 d.torn) ∧ w.cell? ⟨b, off + 7, none⟩ = some (.int .i64 d.part) :=
  ⟨h 0 _ rfl, h 1 _ rfl, h 2 _ rfl, h 3 _ rfl, h 4 _ rfl, h 5 _ rfl, h 6 _ rfl, h 7 _ rfl⟩
set_option maxHeartbeats 8000000 in
theorem refSames27_any (A1 A2 : Option Addr) (n c1 c2 : Nat) (L : List Deed) (V1 V2 : List Value) (w : World) (h1 : SliceIn w w.heap.size 8 A1 n c1 V1) (r1 : DeedsR w w.heap.size L V1)
    (h2 : SliceIn w w.heap.size 8 A2 n c2 V2) (r2 : DeedsR w w.heap.size L V2) (hs : n ≤ 1000000) (hd : ∀ d ∈ L, DeedS d) :
    Calls Try.prog 25 #[.slice A1 n c1, .slice A2 n c2] w fun e w' => e = .returned (.bool true) ∧ Below w.heap.size w w' := by
  have hL : L.length = n := by have := h1.1; rw [r1.length] at this; omega
  have HL := Lib.hid hL
  have H1 := Lib.hid h1
  have H2 := Lib.hid h2
  have R1 := Lib.hid r1
  have R2 := Lib.hid r2
  clear hL h1 h2 r1 r2
  go_enter Try.func25, Try.ntmps25
  go_wp2
  go_loopw [5] (fun i wr => ∃ k : Nat, k ≤ n ∧ i = .int .i64 k ∧ Below w.heap.size w wr) (fun i _ => n - (intOf i).toNat)
  case atStart => exact ⟨0, by omega, rfl, Below.refl _ _⟩
  case round =>
    obtain ⟨w0, rfl⟩ : ∃ w0 : World, w0 = wr := ⟨_, rfl⟩
    obtain ⟨k, hk, rfl, hbel⟩ := hrel
    have HB := Lib.hid hbel
    have hws := hbel.size
    clear hbel
    by_cases hlt : k < n
    · obtain ⟨d, hdk⟩ : ∃ d, L[k]? = some d := ⟨_, List.getElem?_eq_getElem (by rw [HL.out]; exact hlt)⟩
      obtain ⟨b1, o1, cs1, rfl, hb1, hr1, hc1⟩ := deed_at (H1.out.below HB.out) (R1.out.below HB.out) hdk
      obtain ⟨b2, o2, cs2, rfl, hb2, hr2, hc2⟩ := deed_at (H2.out.below HB.out) (R2.out.below HB.out) hdk
      obtain ⟨AB, nB, cB, AC, nC, cC, AK, nK, cK, rfl, s1, s2, s3⟩ := hr1
      obtain ⟨DB, mB, eB, DC, mC, eC, DK, mK, eK, rfl, t1, t2, t3⟩ := hr2
      have hds := hd d (List.mem_of_getElem? hdk)
      have lC : nC ≤ 1000000000 := by have := s2.1; rw [intsV_length] at this; have := hds.1; omega
      have lK : nK ≤ 1000000000 := by have := s3.1; rw [boolsV_length] at this; have := hds.2; omega
      have SM : Hid (∀ W, Below w0.heap.size w0 W → Calls Try.prog 39 #[.agg (cells8 d (.slice AB nB cB) (.slice AC nC cC) (.slice AK nK cK)).toArray, .agg (cells8 d (.slice DB mB eB) (.slice DC mC eC) (.slice DK mK eK)).toArray] W fun e w' => e = .returned (.bool true) ∧ Below W.heap.size W w') := Lib.hid (fun W hW => by
        have hq := hW.size
        have := refSame27_any d d AB AC AK DB DC DK nB cB nC cC nK cK mB eB mC eC mK eK W ((s1.more hws).below hW |>.more hq) ((s2.more hws).below hW |>.more hq) ((s3.more hws).below hW |>.more hq)
          ((t1.more hws).below hW |>.more hq) ((t2.more hws).below hW |>.more hq) ((t3.more hws).below hW |>.more hq) ⟨lC, lK⟩
        rw [sameD_refl] at this
        exact this)
      rw [c8, c8] at SM
      obtain ⟨a0, a1, a2, a3, a4, a5, a6, a7⟩ := deed_cells hc1
      obtain ⟨b0, b1', b2', b3, b4, b5, b6, b7⟩ := deed_cells hc2
      have hb1' : b1 < w0.heap.size := by omega
      have hb2' : b2 < w0.heap.size := by omega
      have ltI : (k : Int) < (n : Int) := by omega
      clear hc1 hc2 s1 s2 s3 t1 t2 t3 hds hdk
      generalize d.kind = xk at *
      generalize d.conn = xc at *
      generalize d.n = xn at *
      generalize d.torn = xt at *
      generalize d.part = xp at *
      go_upto_region 6 with fail
      refine wp_region_plan (fun W => Below w0.heap.size w0 W) [(0, true), (1, true), (2, true), (3, true), (4, true), (5, true), (6, true), (7, true), (8, false), (9, true)] (by kernel_rfl) (by kernel_rfl) rfl (by kernel_rfl) (below_drewN (Below.refl _ _) 1) ?_
      intro w1 hH
      iterate 8
        refine plan_take (v := ?_) rfl (by rfl) ?_ ?_
        rotate_left
        · intro w2 hSw
          have x0 := (hSw.cell (p := ⟨b1, o1 + k * 8, none⟩) hb1').trans a0
          have x1 := (hSw.cell (p := ⟨b1, o1 + k * 8 + 1, none⟩) hb1').trans a1
          have x2 := (hSw.cell (p := ⟨b1, o1 + k * 8 + 2, none⟩) hb1').trans a2
          have x3 := (hSw.cell (p := ⟨b1, o1 + k * 8 + 3, none⟩) hb1').trans a3
          have x4 := (hSw.cell (p := ⟨b1, o1 + k * 8 + 4, none⟩) hb1').trans a4
          have x5 := (hSw.cell (p := ⟨b1, o1 + k * 8 + 5, none⟩) hb1').trans a5
          have x6 := (hSw.cell (p := ⟨b1, o1 + k * 8 + 6, none⟩) hb1').trans a6
          have x7 := (hSw.cell (p := ⟨b1, o1 + k * 8 + 7, none⟩) hb1').trans a7
          have y0 := (hSw.cell (p := ⟨b2, o2 + k * 8, none⟩) hb2').trans b0
          have y1 := (hSw.cell (p := ⟨b2, o2 + k * 8 + 1, none⟩) hb2').trans b1'
          have y2 := (hSw.cell (p := ⟨b2, o2 + k * 8 + 2, none⟩) hb2').trans b2'
          have y3 := (hSw.cell (p := ⟨b2, o2 + k * 8 + 3, none⟩) hb2').trans b3
          have y4 := (hSw.cell (p := ⟨b2, o2 + k * 8 + 4, none⟩) hb2').trans b4
          have y5 := (hSw.cell (p := ⟨b2, o2 + k * 8 + 5, none⟩) hb2').trans b5
          have y6 := (hSw.cell (p := ⟨b2, o2 + k * 8 + 6, none⟩) hb2').trans b6
          have y7 := (hSw.cell (p := ⟨b2, o2 + k * 8 + 7, none⟩) hb2').trans b7
          clear hSw
          go_simp
          try with_reducible rfl
        try simp only [Act.put, List.setIfInBounds_toArray, List.set_cons_zero, List.set_cons_succ]
      refine plan_move rfl (by rfl) (fun K hK => ?_)
      go_simp
      (with_reducible refine (SM.out _ hH.out).mono ?_)
      rintro e w5 ⟨rfl, hb5⟩
      refine hK.out _ _ (below_step hH.out hb5) ?_
      clear hH hK hb5 K
      intro hH
      try simp only [Act.put, List.setIfInBounds_toArray, List.set_cons_zero, List.set_cons_succ]
      iterate 1
        refine plan_take (v := ?_) rfl (by rfl) ?_ ?_
        rotate_left
        · intro w2 hSw
          have x0 := (hSw.cell (p := ⟨b1, o1 + k * 8, none⟩) hb1').trans a0
          have x1 := (hSw.cell (p := ⟨b1, o1 + k * 8 + 1, none⟩) hb1').trans a1
          have x2 := (hSw.cell (p := ⟨b1, o1 + k * 8 + 2, none⟩) hb1').trans a2
          have x3 := (hSw.cell (p := ⟨b1, o1 + k * 8 + 3, none⟩) hb1').trans a3
          have x4 := (hSw.cell (p := ⟨b1, o1 + k * 8 + 4, none⟩) hb1').trans a4
          have x5 := (hSw.cell (p := ⟨b1, o1 + k * 8 + 5, none⟩) hb1').trans a5
          have x6 := (hSw.cell (p := ⟨b1, o1 + k * 8 + 6, none⟩) hb1').trans a6
          have x7 := (hSw.cell (p := ⟨b1, o1 + k * 8 + 7, none⟩) hb1').trans a7
          have y0 := (hSw.cell (p := ⟨b2, o2 + k * 8, none⟩) hb2').trans b0
          have y1 := (hSw.cell (p := ⟨b2, o2 + k * 8 + 1, none⟩) hb2').trans b1'
          have y2 := (hSw.cell (p := ⟨b2, o2 + k * 8 + 2, none⟩) hb2').trans b2'
          have y3 := (hSw.cell (p := ⟨b2, o2 + k * 8 + 3, none⟩) hb2').trans b3
          have y4 := (hSw.cell (p := ⟨b2, o2 + k * 8 + 4, none⟩) hb2').trans b4
          have y5 := (hSw.cell (p := ⟨b2, o2 + k * 8 + 5, none⟩) hb2').trans b5
          have y6 := (hSw.cell (p := ⟨b2, o2 + k * 8 + 6, none⟩) hb2').trans b6
          have y7 := (hSw.cell (p := ⟨b2, o2 + k * 8 + 7, none⟩) hb2').trans b7
          clear hSw
          go_simp
          try with_reducible rfl
        try simp only [Act.put, List.setIfInBounds_toArray, List.set_cons_zero, List.set_cons_succ]
      refine plan_done ?_
      have B9 := Lib.hid (HB.out.trans (hH.out.mono hws))
      clear hH
      go_wp2
      go_roundw
      case rel => exact ⟨k + 1, by omega, by go_num, B9.out⟩
      case measure => simp [intOf]; omega
    · obtain rfl : n = k := by omega
      go_wp2
      go_ret
      exact ⟨rfl, HB.out⟩
end Go.Proofs.Ytmcioedmjcbfbaa
