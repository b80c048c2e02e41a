/- Walk of layer 3: the document's With. Condition: at most 10^6 fields, texts within 10^9 octets. -/
import Derived.Test.YtpmidmdodjgeeaaDoorFieB
namespace Go.Proofs.YtpmidmdodjgeeaaDoor
open Go.RowKit IH
set_option maxRecDepth 100000
theorem with2_hit0 {m f : Fld} {r O : List Fld} (h : isN f m.1 = true) : O ++ with2 m false (f :: r) = (O ++ [m]) ++ with2 m true r := by
  rw [with2, if_pos h]; simp
theorem with2_hit1 {m f : Fld} {r O : List Fld} (h : isN f m.1 = true) : O ++ with2 m true (f :: r) = O ++ with2 m true r := by
  rw [with2, if_pos h]
theorem with2_miss {m f : Fld} {r O : List Fld} (h : isN f m.1 = false) (d : Bool) : O ++ with2 m d (f :: r) = (O ++ [f]) ++ with2 m d r := by
  cases d <;> rw [with2, if_neg (by rw [h]; simp)] <;> simp
set_option maxHeartbeats 4000000 in
theorem refWith_any (A : Option Addr) (n c : Nat) (L : List Fld) (m : Fld) (w : World) (hin : SliceIn w w.heap.size 2 A n c (fldsV L)) (hs : n ≤ 1000000) (hm : smallF 1000000000 L) (hz : m.1.length ≤ 1000000000) :
    Calls Tryd.prog 25 #[.slice A n c, .agg #[.string ⟨m.1.toArray⟩, .string ⟨m.2.toArray⟩]] w fun e w' => ∃ v, e = .returned v ∧ w'.ownsRow w.heap.size 44 2 v (with1 L m).length (fldsV (with1 L m)) ∧ Below w.heap.size w w' := by
  have hL := fld_count hin
  have L2 := lower1_any refLower_any m.1 hz
  have hWe := with2_eq m L
  obtain ⟨P1, hP1⟩ : ∃ X : ByteArray, (⟨m.1.toArray⟩ : ByteArray) = X := ⟨_, rfl⟩
  obtain ⟨P2, hP2⟩ : ∃ X : ByteArray, (⟨m.2.toArray⟩ : ByteArray) = X := ⟨_, rfl⟩
  obtain ⟨X2, hX2⟩ : ∃ X : ByteArray, (⟨(lower m.1).toArray⟩ : ByteArray) = X := ⟨_, rfl⟩
  rw [hP1, hX2] at L2
  have HM : Hid (fldsV [m] = [.string P1, .string P2]) := Lib.hid (by rw [← hP1, ← hP2]; rfl)
  rw [hP1, hP2]
  have hr0 := RowAt.new w 44 [.string P1, .string P2]
  have hin0 := (hin.alloc (Nat.le_refl _) (.cells #[.string P1, .string P2] 44)).more (B' := (w.alloc (.cells #[.string P1, .string P2] 44)).heap.size) (by simp)
  obtain ⟨w0, hw0⟩ : ∃ w0, w.alloc (.cells #[.string P1, .string P2] 44) = w0 := ⟨_, rfl⟩
  have HB0 : Hid (Below w.heap.size w w0) := Lib.hid (by rw [← hw0]; exact below_al w _)
  have q0 : w.heap.size < w0.heap.size := by rw [← hw0]; simp
  rw [show (w.alloc (.cells ([.string P1, .string P2] : List Value).toArray 44)) = w0 from hw0] at hr0
  rw [hw0] at hin0
  have m0 : w0.cell? ⟨w.heap.size, 0, none⟩ = some (.string P1) := hr0.cell (j := 0) rfl
  have m1' : w0.cell? ⟨w.heap.size, 1, none⟩ = some (.string P2) := hr0.cell (j := 1) rfl
  replace L2 := Lib.hid L2
  have HX2 := Lib.hid hX2
  have HWe := Lib.hid hWe
  have Hin := Lib.hid hin0
  have HL := Lib.hid hL
  clear hin hin0 hr0 hP1 hP2 hX2 hWe hL
  go_enter Tryd.func25, Tryd.ntmps25
  go_wp2
  have M0 := Lib.hid m0
  have M1 := Lib.hid m1'
  have Hw0 := Lib.hid hw0
  clear m0 m1' hw0
  go_loopw [5, 6, 7] (fun v b i wr => ∃ (k : Nat) (d : Bool) (O : List Fld), k ≤ n ∧ i = .int .i64 k ∧ b = .bool d ∧ O.length ≤ k ∧ O ++ with2 m d (L.drop k) = with1 L m ∧ wr.ownsRow w0.heap.size 44 2 v O.length (fldsV O) ∧ Below w0.heap.size w0 wr) (fun _ _ i _ => n - (intOf i).toNat)
  case atStart => exact ⟨0, false, [], by omega, rfl, rfl, by simp, HWe.out, World.ownsRow_nil _ _ _ _, Below.refl _ _⟩
  case round =>
    obtain ⟨k, d, O, hk, rfl, rfl, hOk, hO, hrow, hbel⟩ := hrel
    have Hrow := Lib.hid hrow
    have Hbel := Lib.hid hbel
    have HO := Lib.hid hO
    clear hrow hO
    have n0 := (hbel.cell (p := ⟨w.heap.size, 0, none⟩) q0).trans M0.out
    have n1 := (hbel.cell (p := ⟨w.heap.size, 1, none⟩) q0).trans M1.out
    have hbs := hbel.size
    clear hbel
    by_cases hlt : k < n
    · obtain ⟨f, hf⟩ : ∃ f, L[k]? = some f := ⟨_, List.getElem?_eq_getElem (by rw [HL.out]; omega)⟩
      obtain ⟨b, off, rfl, hb, c0, c1⟩ := fld_at (Hin.out.below Hbel.out) hf
      obtain ⟨m1, m2⟩ := smallF_get hm hf
      have L1 := lower1_any refLower_any f.1 m1
      have hdr : L.drop k = f :: L.drop (k + 1) := by
        obtain ⟨hl, rfl⟩ := List.getElem?_eq_some_iff.1 hf
        exact List.drop_eq_getElem_cons hl
      have hsn := HO.out
      rw [hdr] at hsn
      have hq := isN_beq f m.1
      obtain ⟨X1, hX1⟩ : ∃ X : ByteArray, (⟨(lower f.1).toArray⟩ : ByteArray) = X := ⟨_, rfl⟩
      rw [hX1] at L1 hq
      rw [HX2.out] at hq
      obtain ⟨Z, hZ⟩ : ∃ X : ByteArray, (⟨f.1.toArray⟩ : ByteArray) = X := ⟨_, rfl⟩
      obtain ⟨Y, hY⟩ : ∃ Y : ByteArray, (⟨f.2.toArray⟩ : ByteArray) = Y := ⟨_, rfl⟩
      rw [hZ] at L1 c0
      rw [hY] at c1
      have HF : Hid (fldsV [f] = [.string Z, .string Y]) := Lib.hid (by rw [← hZ, ← hY]; rfl)
      have hbw : b < wr.heap.size := Nat.lt_of_lt_of_le hb hbs
      have hbm : w.heap.size < wr.heap.size := Nat.lt_of_lt_of_le q0 hbs
      replace L1 := Lib.hid L1
      cases hp : isN f m.1
      · rw [hp] at hq
        rw [with2_miss hp] at hsn
        have Hsn := Lib.hid hsn
        have Hq := Lib.hid hq.symm
        clear hsn hf hp m1 m2 hX1 hZ hY hq hdr
        go_upto_region 6 with fail
        refine wp_region_tree (fun W => Below wr.heap.size wr W) (.take 0 (.take 1 (.take 2 (.take 3 (.take 4 (.take 6 (.take 7 (.node (.fork 5 (.node (.fork 8 (.take 9 (.done)) (.stop))) (.stop)))))))))) (by kernel_rfl) (by kernel_rfl) (of_decide_eq_true (by kernel_rfl)) rfl (by kernel_rfl) (below_drewN (Below.refl _ _) 1) ?_
        intro w1 hH
        iterate 7
          refine tree_take (v := ?_) rfl (by rfl) ?_ ?_
          rotate_left
          · intro w2 hSw
            have e0 := (hSw.cell (p := ⟨b, off + k * 2, none⟩) hbw).trans c0
            have e1 := (hSw.cell (p := ⟨w.heap.size, 0, none⟩) hbm).trans n0
            clear hSw
            go_simp
            try with_reducible rfl
          try simp only [Act.put, List.setIfInBounds_toArray, List.set_cons_zero, List.set_cons_succ]
        refine tree_node ?_
        refine tree_move rfl (by rfl) (fun K hK => ?_) ?_
        · go_simp
          (with_reducible refine (L1.out _).mono ?_)
          rintro e w5 ⟨rfl, hb2⟩
          refine hK.out _ _ (below_step hH.out hb2) ?_
          clear hH hK hb2 K
          intro hH
          try simp only [Act.put, List.setIfInBounds_toArray, List.set_cons_zero, List.set_cons_succ]
          refine tree_node ?_
          refine tree_move rfl (by rfl) (fun K hK => ?_) ?_
          · go_simp
            (with_reducible refine (L2.out _).mono ?_)
            rintro e w5 ⟨rfl, hb2⟩
            refine hK.out _ _ (below_step hH.out hb2) ?_
            clear hH hK hb2 K
            intro hH
            try simp only [Act.put, List.setIfInBounds_toArray, List.set_cons_zero, List.set_cons_succ]
            iterate 1
              refine tree_take (v := ?_) rfl (by rfl) ?_ ?_
              rotate_left
              · intro w2 hSw
                have e0 := (hSw.cell (p := ⟨b, off + k * 2, none⟩) hbw).trans c0
                have e1 := (hSw.cell (p := ⟨w.heap.size, 0, none⟩) hbm).trans n0
                clear hSw
                go_simp
                try with_reducible rfl
              try simp only [Act.put, List.setIfInBounds_toArray, List.set_cons_zero, List.set_cons_succ]
            refine tree_done ?_
            have B9 := Lib.hid (below_step Hbel.out hH.out)
            have R9 := Lib.hid (own_below Hrow.out hH.out)
            have c2 := (hH.out.cell (p := ⟨b, off + k * 2, none⟩) hbw).trans c0
            have c3 := (hH.out.cell (p := ⟨b, off + k * 2 + 1, none⟩) hbw).trans c1
            have hB9 := B9.out.size
            have hq' := Hq.out
            clear hH
            simp only [hq', Bool.not_false]
            go_wp2_with (at_builtin; refine wpList_app fld_ty rfl _ _ rfl w0.heap.size _ _ _ rfl R9.out 1 1 [.string Z, .string Y] rfl (by rfl) (by rw [← HF.out]; exact fldsV_one [f]) (by omega) (by simp only [maxLen]; omega) hB9 ?_; intro v' w8 hown' hgr)
            go_roundw
            case rel => exact ⟨k + 1, d, O ++ [f], by omega, by go_num, rfl, by simp; omega, Hsn.out, by rw [fldsV_append, List.length_append, HF.out]; exact hown', B9.out.grown hgr hB9 (fun g hg => (R9.out.lt g hg).1)⟩
            case measure => simp [intOf]; omega
          exact tree_stop
        exact tree_stop
      · rw [hp] at hq
        have Hq := Lib.hid hq.symm
        cases d
        · rw [with2_hit0 hp] at hsn
          have Hsn := Lib.hid hsn
          clear hsn hf hp m1 m2 hX1 hZ hY hq hdr
          go_upto_region 6 with fail
          refine wp_region_tree (fun W => Below wr.heap.size wr W) (.take 0 (.take 1 (.take 2 (.take 3 (.take 4 (.take 6 (.take 7 (.node (.fork 5 (.node (.fork 8 (.take 9 (.done)) (.stop))) (.stop)))))))))) (by kernel_rfl) (by kernel_rfl) (of_decide_eq_true (by kernel_rfl)) rfl (by kernel_rfl) (below_drewN (Below.refl _ _) 1) ?_
          intro w1 hH
          iterate 7
            refine tree_take (v := ?_) rfl (by rfl) ?_ ?_
            rotate_left
            · intro w2 hSw
              have e0 := (hSw.cell (p := ⟨b, off + k * 2, none⟩) hbw).trans c0
              have e1 := (hSw.cell (p := ⟨w.heap.size, 0, none⟩) hbm).trans n0
              clear hSw
              go_simp
              try with_reducible rfl
            try simp only [Act.put, List.setIfInBounds_toArray, List.set_cons_zero, List.set_cons_succ]
          refine tree_node ?_
          refine tree_move rfl (by rfl) (fun K hK => ?_) ?_
          · go_simp
            (with_reducible refine (L1.out _).mono ?_)
            rintro e w5 ⟨rfl, hb2⟩
            refine hK.out _ _ (below_step hH.out hb2) ?_
            clear hH hK hb2 K
            intro hH
            try simp only [Act.put, List.setIfInBounds_toArray, List.set_cons_zero, List.set_cons_succ]
            refine tree_node ?_
            refine tree_move rfl (by rfl) (fun K hK => ?_) ?_
            · go_simp
              (with_reducible refine (L2.out _).mono ?_)
              rintro e w5 ⟨rfl, hb2⟩
              refine hK.out _ _ (below_step hH.out hb2) ?_
              clear hH hK hb2 K
              intro hH
              try simp only [Act.put, List.setIfInBounds_toArray, List.set_cons_zero, List.set_cons_succ]
              iterate 1
                refine tree_take (v := ?_) rfl (by rfl) ?_ ?_
                rotate_left
                · intro w2 hSw
                  have e0 := (hSw.cell (p := ⟨b, off + k * 2, none⟩) hbw).trans c0
                  have e1 := (hSw.cell (p := ⟨w.heap.size, 0, none⟩) hbm).trans n0
                  clear hSw
                  go_simp
                  try with_reducible rfl
                try simp only [Act.put, List.setIfInBounds_toArray, List.set_cons_zero, List.set_cons_succ]
              refine tree_done ?_
              have B9 := Lib.hid (below_step Hbel.out hH.out)
              have R9 := Lib.hid (own_below Hrow.out hH.out)
              have c2 := (hH.out.cell (p := ⟨w.heap.size, 0, none⟩) hbm).trans n0
              have c3 := (hH.out.cell (p := ⟨w.heap.size, 1, none⟩) hbm).trans n1
              have hB9 := B9.out.size
              have hq' := Hq.out
              clear hH
              simp only [hq', Bool.not_true]
              go_wp2_with (at_builtin; refine wpList_app fld_ty rfl _ _ rfl w0.heap.size _ _ _ rfl R9.out 1 1 [.string P1, .string P2] rfl (by rfl) (by rw [← HM.out]; exact fldsV_one [m]) (by omega) (by simp only [maxLen]; omega) hB9 ?_; intro v' w8 hown' hgr)
              go_roundw
              case rel => exact ⟨k + 1, true, O ++ [m], by omega, by go_num, rfl, by simp; omega, Hsn.out, by rw [fldsV_append, List.length_append, HM.out]; exact hown', B9.out.grown hgr hB9 (fun g hg => (R9.out.lt g hg).1)⟩
              case measure => simp [intOf]; omega
            exact tree_stop
          exact tree_stop
        · rw [with2_hit1 hp] at hsn
          have Hsn := Lib.hid hsn
          clear hsn hf hp m1 m2 hX1 hZ hY hq hdr
          go_upto_region 6 with fail
          refine wp_region_tree (fun W => Below wr.heap.size wr W) (.take 0 (.take 1 (.take 2 (.take 3 (.take 4 (.take 6 (.take 7 (.node (.fork 5 (.node (.fork 8 (.take 9 (.done)) (.stop))) (.stop)))))))))) (by kernel_rfl) (by kernel_rfl) (of_decide_eq_true (by kernel_rfl)) rfl (by kernel_rfl) (below_drewN (Below.refl _ _) 1) ?_
          intro w1 hH
          iterate 7
            refine tree_take (v := ?_) rfl (by rfl) ?_ ?_
            rotate_left
            · intro w2 hSw
              have e0 := (hSw.cell (p := ⟨b, off + k * 2, none⟩) hbw).trans c0
              have e1 := (hSw.cell (p := ⟨w.heap.size, 0, none⟩) hbm).trans n0
              clear hSw
              go_simp
              try with_reducible rfl
            try simp only [Act.put, List.setIfInBounds_toArray, List.set_cons_zero, List.set_cons_succ]
          refine tree_node ?_
          refine tree_move rfl (by rfl) (fun K hK => ?_) ?_
          · go_simp
            (with_reducible refine (L1.out _).mono ?_)
            rintro e w5 ⟨rfl, hb2⟩
            refine hK.out _ _ (below_step hH.out hb2) ?_
            clear hH hK hb2 K
            intro hH
            try simp only [Act.put, List.setIfInBounds_toArray, List.set_cons_zero, List.set_cons_succ]
            refine tree_node ?_
            refine tree_move rfl (by rfl) (fun K hK => ?_) ?_
            · go_simp
              (with_reducible refine (L2.out _).mono ?_)
              rintro e w5 ⟨rfl, hb2⟩
              refine hK.out _ _ (below_step hH.out hb2) ?_
              clear hH hK hb2 K
              intro hH
              try simp only [Act.put, List.setIfInBounds_toArray, List.set_cons_zero, List.set_cons_succ]
              iterate 1
                refine tree_take (v := ?_) rfl (by rfl) ?_ ?_
                rotate_left
                · intro w2 hSw
                  have e0 := (hSw.cell (p := ⟨b, off + k * 2, none⟩) hbw).trans c0
                  have e1 := (hSw.cell (p := ⟨w.heap.size, 0, none⟩) hbm).trans n0
                  clear hSw
                  go_simp
                  try with_reducible rfl
                try simp only [Act.put, List.setIfInBounds_toArray, List.set_cons_zero, List.set_cons_succ]
              refine tree_done ?_
              have B9 := Lib.hid (below_step Hbel.out hH.out)
              have R9 := Lib.hid (own_below Hrow.out hH.out)
              skip
              have hB9 := B9.out.size
              have hq' := Hq.out
              clear hH
              simp only [hq', Bool.not_true]
              go_wp2
              go_roundw
              case rel => exact ⟨k + 1, true, O, by omega, by go_num, rfl, by omega, Hsn.out, R9.out, B9.out⟩
              case measure => simp [intOf]; omega
            exact tree_stop
          exact tree_stop
    · obtain rfl : k = n := by omega
      have e : L.drop k = [] := List.drop_eq_nil_of_le (by rw [HL.out]; omega)
      have hfin := HO.out
      rw [e] at hfin
      clear e
      have B9 := Lib.hid Hbel.out
      have R9 := Lib.hid Hrow.out
      have hB9 := hbs
      cases d
      · have hfin2 : O ++ [m] = with1 L m := hfin
        have HF2 := Lib.hid hfin2
        clear hfin hfin2
        go_wp2_with (at_builtin; refine wpList_app fld_ty rfl _ _ rfl w0.heap.size _ _ _ rfl R9.out 1 1 [.string P1, .string P2] rfl (by rfl) (by rw [← HM.out]; exact fldsV_one [m]) (by omega) (by simp only [maxLen]; omega) hB9 ?_; intro v' w8 hown' hgr)
        go_ret
        have B10 := B9.out.grown hgr hB9 (fun g hg => (R9.out.lt g hg).1)
        refine ⟨_, rfl, ?_, HB0.out.trans (B10.mono (by omega))⟩
        rw [← HF2.out, fldsV_append, List.length_append, HM.out]
        exact own_mono hown' (by omega)
      · have hfin2 : O = with1 L m := by rw [← hfin]; simp [with2]
        have HF2 := Lib.hid hfin2
        clear hfin hfin2
        go_wp2
        go_ret
        refine ⟨_, rfl, ?_, HB0.out.trans (B9.out.mono (by omega))⟩
        rw [← HF2.out]
        exact own_mono R9.out (by omega)
end Go.Proofs.YtpmidmdodjgeeaaDoor
