/- Walk of layer 3: With. Condition: at most 10^5 fields, texts within 10^9 octets. -/
import Derived.Test.YtpmidmdodjgeeaaDoorFie8
namespace Go.Proofs.YtpmidmdodjgeeaaDoor
open Go.RowKit IH
set_option maxRecDepth 100000
theorem row_at {w W : World} (_h : Hid (Below w.heap.size w W)) (e : TypeId) (cs : List Value) : RowAt (W.alloc (.cells cs.toArray e)) W.heap.size e cs := RowAt.new W e cs
theorem row_size {w : World} {g g' : Nat} {e : TypeId} {cs : List Value} (h : RowAt w g e cs) (hg : g = g') : RowAt w g' e cs := hg ▸ h
theorem ne_new {w W : World} (_h : Hid (Below w.heap.size w W)) {base : Nat} {e : TypeId} {size n : Nat} {v : Value} {xs : List Value} (r : W.ownsRow base e size v n xs) : ∀ q, v.ownBlock = some q → q ≠ W.heap.size := fun q hq he => by
  have := (r.lt q hq).2
  omega
theorem ne_old {W W' : World} {e : TypeId} {size n gn : Nat} {v : Value} {xs : List Value} (r : W'.ownsRow W.heap.size e size v n xs) (hg : gn < W.heap.size) : ∀ q, v.ownBlock = some q → q ≠ gn := fun q hq he => by
  have := (r.lt q hq).1
  omega
theorem row_grown {W W' : World} {gn : Nat} {e : TypeId} {cs : List Value} {row : Option Nat} (h : RowAt W gn e cs) (hgr : W.grownBy W' row) (hne : ∀ q, row = some q → q ≠ gn) : RowAt W' gn e cs :=
  h.keep (hgr.block gn h.lt (fun he => hne gn he.symm rfl))
set_option maxHeartbeats 4000000 in
theorem With_any (A : Option Addr) (n c : Nat) (L : List Fld) (A2 : Option Addr) (m c2 : Nat) (K : List Fld) (w : World) (hin : SliceIn w w.heap.size 2 A n c (fldsV L)) (hs : n ≤ 100000) (hm : smallF 1000000000 L) (hinK : SliceIn w w.heap.size 2 A2 m c2 (fldsV K)) (hsK : m ≤ 100000) (hmK : smallF 1000000000 K) :
    Calls Tryd.prog 21 #[.slice A n c, .slice A2 m c2] w fun e w' => ∃ v, e = .returned v ∧ w'.ownsRow w.heap.size 44 2 v (withL L K).length (fldsV (withL L K)) ∧ Below w.heap.size w w' := by
  have hL := fld_count hin
  have hK := fld_count hinK
  have CL := Lib.hid (clone_any A n c L w hin (by omega))
  have HB := Lib.hid (withL_bd hm hmK)
  have HIK := Lib.hid hinK
  clear hin hinK
  go_enter Tryd.func21, Tryd.ntmps21
  go_wp2_with (go_at_call 46; refine CL.out.mono ?_; rintro e w1 ⟨v1, rfl, hrow, hb1⟩; have Hrow := Lib.hid hrow; have B1 := Lib.hid hb1; clear hrow hb1)
  go_loopw [5, 13] (fun v i wr => ∃ k : Nat, k ≤ m ∧ i = .int .i64 k ∧ wr.ownsRow w.heap.size 44 2 v (withL L (K.take k)).length (fldsV (withL L (K.take k))) ∧ Below w.heap.size w wr) (fun _ i _ => m - (intOf i).toNat)
  case atStart => exact ⟨0, by omega, rfl, Hrow.out, B1.out⟩
  case round =>
    clear Hrow B1 CL
    obtain ⟨k, hk, rfl, hrow, hbel⟩ := hrel
    have Hrow := Lib.hid hrow; clear hrow
    by_cases hlt : k < m
    · obtain ⟨f, hf⟩ : ∃ f, K[k]? = some f := ⟨_, List.getElem?_eq_getElem (by omega)⟩
      obtain ⟨b, off, rfl, hb, c0, c1⟩ := fld_at (HIK.out.below hbel) hf
      obtain ⟨m1, m2⟩ := smallF_get hmK hf
      obtain ⟨hO, hOl⟩ := HB.out k (by omega)
      have hsn := withL_snoc L K k f hf
      obtain ⟨O, hOO⟩ : ∃ O, withL L (K.take k) = O := ⟨_, rfl⟩
      rw [hOO] at hO hOl hsn Hrow
      obtain ⟨AO, CO, rfl, hsl⟩ := own_slice Hrow.out
      obtain ⟨X, hX⟩ : ∃ X : ByteArray, (⟨f.1.toArray⟩ : ByteArray) = X := ⟨_, rfl⟩
      obtain ⟨Y, hY⟩ : ∃ Y : ByteArray, (⟨f.2.toArray⟩ : ByteArray) = Y := ⟨_, rfl⟩
      have hXs : X.size ≤ 1000000000 := by rw [← hX, size_mk]; exact m1
      have hXd : X.data.toList = f.1 := by rw [← hX]
      have HF : Hid (fldsV [f] = [.string X, .string Y]) := Lib.hid (by rw [← hX, ← hY]; rfl)
      have HX : Hid (strsV [f.1] = [.string X]) := Lib.hid (by rw [← hX]; rfl)
      rw [hX] at c0
      rw [hY] at c1
      have rb := RowAt.new wr 44 [.string X, .string Y]
      have IW := IndexWith_any AO O.length CO O X wr.heap.size (wr.alloc (.cells #[.string X, .string Y] 44)) ((hsl.alloc (Nat.le_refl _) _).more (by simp)) (by omega) hO hXs (by simp) (rb.cell (j := 0) rfl)
      rw [hXd] at IW
      have hBw := hbel.size
      have hba := hbel.alloc hbel.size (.cells #[.string X, .string Y] 44)
      have Hba := Lib.hid hba
      clear hba hOO hX hY rb hsl
      rcases fi_cases (fun g => isN g f.1) O with ⟨h1, h2⟩ | ⟨i, f0, h1, h2, h3, h4⟩
      · rw [h1] at IW
        rw [with1_none h1] at hsn
        have Hsn := Lib.hid hsn
        replace IW := Lib.hid IW
        clear hsn h1 h2 hf hXd
        go_wp2_with (first
          | (go_at_call 50; refine IW.out.mono ?_; rintro e w2 ⟨rfl, hb2⟩; have d0 := new_cell hb2 (j := 0) rfl; have d1 := new_cell hb2 (j := 1) rfl; have R2 := Lib.hid (own_below (Hrow.out.alloc (.cells #[.string X, .string Y] 44)) hb2); have B2 := Lib.hid (below_step Hba.out hb2); clear hb2; have hB2 := B2.out.size)
          | (at_builtin; refine wpList_app fld_ty rfl _ _ rfl w.heap.size _ _ _ rfl R2.out 1 1 [.string X, .string Y] rfl (by rfl) (by rw [← HF.out]; exact fldsV_one [f]) (by omega) (by simp only [maxLen]; omega) hB2 ?_; intro v' w4 hown' hgr))
        go_roundw
        case rel =>
          refine ⟨k + 1, by omega, by go_num, ?_, B2.out.grown hgr hB2 (fun g hg => (R2.out.lt g hg).1)⟩
          rw [Hsn.out, fldsV_append, List.length_append, HF.out]
          exact hown'
        case measure => simp [intOf]; omega
      · obtain ⟨hsn2, hil⟩ := with1_some h1
        rw [hsn2] at hsn
        obtain ⟨g, rfl⟩ : ∃ g, AO = some ⟨g, 0, none⟩ := by
          rcases Hrow.out.2 with ⟨h', h0⟩ | ⟨g, cap, cur, h', _⟩
          · omega
          · simp only [Value.slice.injEq] at h'
            exact ⟨g, h'.1⟩
        rw [h1] at IW
        generalize hnO : O.length = nO at *
        have HnO := Lib.hid hnO
        have Hsn := Lib.hid hsn
        have HO := Lib.hid hO
        have hm3 : smallS 1000000000 [f.1] := fun x hx => by rw [List.mem_singleton.1 hx]; exact m1
        have Hm3 := Lib.hid hm3
        have hnC : nO ≤ CO := by
          rcases Hrow.out.2 with ⟨h', h0⟩ | ⟨g', cap', cur, h', _, _, hnc, _⟩
          · omega
          · simp only [Value.slice.injEq] at h'
            omega
        have j1 : i ≤ CO := by omega
        have j2 : i + 1 ≤ CO := by omega
        have j3 : i + 1 ≤ nO := by omega
        have i1 : (i : Int) ≤ (nO : Int) := by omega
        have i2 : (i : Int) + 1 ≤ (nO : Int) := by omega
        have i0 : (0 : Int) ≤ (i : Int) := by omega
        have i3 : (0 : Int) ≤ (i : Int) + 1 := by omega
        have iw : IntKind.i64.wrap ((i : Int) + 1) = (i : Int) + 1 := IntWalk.i64_in _ ⟨by omega, by omega⟩
        have it : ((i : Int) + 1).toNat = i + 1 := by omega
        replace IW := Lib.hid IW
        clear hsn hsn2 h1 h2 h3 h4 hf hXd hnO hO hm3
        go_upto_region 8 with (go_at_call 50; refine IW.out.mono ?_; rintro e w2 ⟨rfl, hb2⟩; have d0 := new_cell hb2 (j := 0) rfl; have d1 := new_cell hb2 (j := 1) rfl; have R2 := Lib.hid (own_below (Hrow.out.alloc (.cells #[.string X, .string Y] 44)) hb2); have B2 := Lib.hid (below_step Hba.out hb2); have hbx : wr.heap.size < w2.heap.size := (by have := hb2.size; simp at this; omega); clear hb2)
        have hco : (O.take i).length = i := by rw [List.length_take, HnO.out]; omega
        have Hco := Lib.hid hco
        clear hco
        refine wp_region_tree (fun W => Below w2.heap.size w2 W) (.take 0 (.take 1 (.take 2 (.take 4 (.take 7 (.take 8 (.take 9 (.take 10 (.take 11 (.take 12 (.node (.fork 3 (.node (.fork 5 (.node (.fork 6 (.node (.fork 13 (.node (.fork 14 (.node (.fork 15 (.take 16 (.done)) (.stop))) (.stop))) (.stop))) (.fork 13 (.node (.fork 6 (.node (.fork 14 (.node (.fork 15 (.take 16 (.done)) (.stop))) (.stop))) (.stop))) (.stop)))) (.fork 13 (.node (.fork 5 (.node (.fork 6 (.node (.fork 14 (.node (.fork 15 (.take 16 (.done)) (.stop))) (.stop))) (.stop))) (.stop))) (.stop)))) (.fork 5 (.node (.fork 3 (.node (.fork 6 (.node (.fork 13 (.node (.fork 14 (.node (.fork 15 (.take 16 (.done)) (.stop))) (.stop))) (.stop))) (.fork 13 (.node (.fork 6 (.node (.fork 14 (.node (.fork 15 (.take 16 (.done)) (.stop))) (.stop))) (.stop))) (.stop)))) (.fork 13 (.node (.fork 3 (.node (.fork 6 (.node (.fork 14 (.node (.fork 15 (.take 16 (.done)) (.stop))) (.stop))) (.stop))) (.stop))) (.stop)))) (.fork 13 (.node (.fork 3 (.node (.fork 5 (.node (.fork 6 (.node (.fork 14 (.node (.fork 15 (.take 16 (.done)) (.stop))) (.stop))) (.stop))) (.stop))) (.fork 5 (.node (.fork 3 (.node (.fork 6 (.node (.fork 14 (.node (.fork 15 (.take 16 (.done)) (.stop))) (.stop))) (.stop))) (.stop))) (.stop)))) (.stop))))))))))))))) (by kernel_rfl) (by kernel_rfl) (of_decide_eq_true (by kernel_rfl)) rfl (by kernel_rfl) (below_drewN (Below.refl _ _) 1) ?_
        intro w1 hH
        iterate 10
          refine tree_take (v := ?_) rfl (by rfl) ?_ ?_
          rotate_left
          · intro w2 hSw
            have e0 := (hSw.cell (p := ⟨wr.heap.size, 0, none⟩) hbx).trans d0
            have e1 := (hSw.cell (p := ⟨wr.heap.size, 1, none⟩) hbx).trans d1
            clear hSw
            go_simp
            try with_reducible rfl
          try simp only [Act.put, List.setIfInBounds_toArray, List.set_cons_zero, List.set_cons_succ]
        refine tree_node ?_
        refine tree_move rfl (by rfl) (fun K hK => ?_) ?_
        · go_simp
          (with_reducible refine (clone_any (some ⟨g, 0, none⟩) i CO (O.take i) _ (own_take (own_below R2.out hH.out) i (by omega)) (by omega)).mono ?_)
          rintro e w3 ⟨v3, rfl, hrow3, hb2⟩
          rw [Hco.out] at hrow3
          refine hK.out _ _ (below_step hH.out hb2) ?_
          have FC := Lib.hid (own_mono hrow3 hH.out.size)
          try (have HNE := Lib.hid (ne_old hrow3 FN.out.lt))
          try (replace FM := Lib.hid (FM.out.below hb2 FM.out.lt))
          try (replace FN := Lib.hid (FN.out.below hb2 FN.out.lt))
          clear hH hK hb2 K hrow3
          intro hH
          try simp only [Act.put, List.setIfInBounds_toArray, List.set_cons_zero, List.set_cons_succ]
          refine tree_node ?_
          refine tree_move rfl (by rfl) (fun K hK => ?_) ?_
          · go_simp
            refine hK.out _ _ (hH.out.alloc hH.out.size _) ?_
            have FM := Lib.hid (row_at hH 44 [.string X, .string Y])
            try (replace FC := Lib.hid (FC.out.alloc (.cells #[.string X, .string Y] 44)))
            try (replace FN := Lib.hid (FN.out.alloc (.cells #[.string X, .string Y] 44)))
            clear hH hK K
            intro hH
            try simp only [Act.put, List.setIfInBounds_toArray, List.set_cons_zero, List.set_cons_succ]
            refine tree_node ?_
            refine tree_move rfl (by rfl) (fun K hK => ?_) ?_
            · refine wp_appS fld_ty _ _ rfl w2.heap.size _ i _ rfl FC.out _ _ 1 1 [.string X, .string Y] rfl ((row_size FM.out (by simp)).slice (size := 2) (n := 1) (c := 1) rfl (Nat.le_refl _) (by simp [maxLen])) (by rw [← HF.out]; exact fldsV_one [f]) (by omega) (by simp only [maxLen]; omega) hH.out.size ?_
              intro v6 w6 hown6 hgr
              refine hK.out _ _ (hH.out.grown hgr hH.out.size (fun q hq => (FC.out.lt q hq).1)) ?_
              have FA := Lib.hid hown6
              try (replace FN := Lib.hid (row_grown FN.out hgr HNE.out))
              clear hH hK K hown6 hgr FM FC
              intro hH
              try simp only [Act.put, List.setIfInBounds_toArray, List.set_cons_zero, List.set_cons_succ]
              refine tree_node ?_
              refine tree_move rfl (by rfl) (fun K hK => ?_) ?_
              · go_simp
                refine hK.out _ _ (hH.out.alloc hH.out.size _) ?_
                have FN := Lib.hid (row_at hH 9 [.string X])
                try (have HNE := Lib.hid (ne_new hH FC.out))
                try (replace FC := Lib.hid (FC.out.alloc (.cells #[.string X] 9)))
                try (replace FM := Lib.hid (FM.out.alloc (.cells #[.string X] 9)))
                try (replace FA := Lib.hid (FA.out.alloc (.cells #[.string X] 9)))
                clear hH hK K
                intro hH
                try simp only [Act.put, List.setIfInBounds_toArray, List.set_cons_zero, List.set_cons_succ]
                refine tree_node ?_
                refine tree_move rfl (by rfl) (fun K hK => ?_) ?_
                · go_simp
                  refine (Without_any _ _ _ (O.drop (i + 1)) _ 1 1 [f.1] _ (own_drop (own_below R2.out hH.out) (i + 1) (by omega) _ (fun hlt => by first | rfl | rw [if_neg (by omega)])) (by omega) (fun x hx => HO.out x (List.mem_of_mem_drop hx)) (by rw [HX.out]; exact (row_size FN.out (by simp)).slice (size := 1) (n := 1) (c := 1) rfl (Nat.le_refl _) (by simp [maxLen])) (by omega) Hm3.out).mono ?_
                  rintro e w5 ⟨v5, rfl, hrow5, hb2⟩
                  obtain ⟨A5, C5, rfl, hsl5⟩ := own_slice hrow5
                  refine hK.out _ _ (below_step hH.out hb2) ?_
                  replace FA := Lib.hid (own_below FA.out hb2)
                  have FW := Lib.hid hsl5
                  clear hH hK hb2 K hrow5 hsl5 FN
                  intro hH
                  try simp only [Act.put, List.setIfInBounds_toArray, List.set_cons_zero, List.set_cons_succ]
                  refine tree_node ?_
                  refine tree_move rfl (by rfl) (fun K hK => ?_) ?_
                  · refine wp_appS fld_ty _ _ rfl w2.heap.size _ (i + 1) _ rfl FA.out _ A5 _ C5 _ rfl FW.out (fldsV_one _) (by have := without_length_le (O.drop (i + 1)) [f.1]; rw [List.length_drop, HnO.out] at this; omega) (by have := without_length_le (O.drop (i + 1)) [f.1]; rw [List.length_drop, HnO.out] at this; simp only [maxLen]; omega) hH.out.size ?_
                    intro v7 w7 hown7 hgr
                    refine hK.out _ _ (hH.out.grown hgr hH.out.size (fun q hq => (FA.out.lt q hq).1)) ?_
                    have FZ := Lib.hid hown7
                    clear hK K hown7 hgr FA FW
                    intro hH
                    try simp only [Act.put, List.setIfInBounds_toArray, List.set_cons_zero, List.set_cons_succ]
                    iterate 1
                      refine tree_take (v := ?_) rfl (by rfl) ?_ ?_
                      rotate_left
                      · intro w2 hSw
                        have e0 := (hSw.cell (p := ⟨wr.heap.size, 0, none⟩) hbx).trans d0
                        have e1 := (hSw.cell (p := ⟨wr.heap.size, 1, none⟩) hbx).trans d1
                        clear hSw
                        go_simp
                        try with_reducible rfl
                      try simp only [Act.put, List.setIfInBounds_toArray, List.set_cons_zero, List.set_cons_succ]
                    refine tree_done ?_
                    have hb := B2.out.trans (hH.out.mono B2.out.size)
                    have q := own_mono FZ.out B2.out.size
                    have Hb := Lib.hid hb
                    have Hq := Lib.hid q
                    clear hb q hH
                    go_wp2
                    go_roundw
                    case rel => exact ⟨k + 1, by omega, by go_num, by rw [Hsn.out, List.length_append, List.length_append, List.length_take, HnO.out, Nat.min_eq_left (by omega), fldsV_append, fldsV_append, HF.out]; exact Hq.out, Hb.out⟩
                    case measure => simp [intOf]; omega
                  exact tree_stop
                exact tree_stop
              exact tree_stop
            refine tree_move rfl (by rfl) (fun K hK => ?_) ?_
            · go_simp
              refine hK.out _ _ (hH.out.alloc hH.out.size _) ?_
              have FN := Lib.hid (row_at hH 9 [.string X])
              try (have HNE := Lib.hid (ne_new hH FC.out))
              try (replace FC := Lib.hid (FC.out.alloc (.cells #[.string X] 9)))
              try (replace FM := Lib.hid (FM.out.alloc (.cells #[.string X] 9)))
              try (replace FA := Lib.hid (FA.out.alloc (.cells #[.string X] 9)))
              clear hH hK K
              intro hH
              try simp only [Act.put, List.setIfInBounds_toArray, List.set_cons_zero, List.set_cons_succ]
              refine tree_node ?_
              refine tree_move rfl (by rfl) (fun K hK => ?_) ?_
              · refine wp_appS fld_ty _ _ rfl w2.heap.size _ i _ rfl FC.out _ _ 1 1 [.string X, .string Y] rfl ((row_size FM.out (by simp)).slice (size := 2) (n := 1) (c := 1) rfl (Nat.le_refl _) (by simp [maxLen])) (by rw [← HF.out]; exact fldsV_one [f]) (by omega) (by simp only [maxLen]; omega) hH.out.size ?_
                intro v6 w6 hown6 hgr
                refine hK.out _ _ (hH.out.grown hgr hH.out.size (fun q hq => (FC.out.lt q hq).1)) ?_
                have FA := Lib.hid hown6
                try (replace FN := Lib.hid (row_grown FN.out hgr HNE.out))
                clear hH hK K hown6 hgr FM FC
                intro hH
                try simp only [Act.put, List.setIfInBounds_toArray, List.set_cons_zero, List.set_cons_succ]
                refine tree_node ?_
                refine tree_move rfl (by rfl) (fun K hK => ?_) ?_
                · go_simp
                  refine (Without_any _ _ _ (O.drop (i + 1)) _ 1 1 [f.1] _ (own_drop (own_below R2.out hH.out) (i + 1) (by omega) _ (fun hlt => by first | rfl | rw [if_neg (by omega)])) (by omega) (fun x hx => HO.out x (List.mem_of_mem_drop hx)) (by rw [HX.out]; exact (row_size FN.out (by simp)).slice (size := 1) (n := 1) (c := 1) rfl (Nat.le_refl _) (by simp [maxLen])) (by omega) Hm3.out).mono ?_
                  rintro e w5 ⟨v5, rfl, hrow5, hb2⟩
                  obtain ⟨A5, C5, rfl, hsl5⟩ := own_slice hrow5
                  refine hK.out _ _ (below_step hH.out hb2) ?_
                  replace FA := Lib.hid (own_below FA.out hb2)
                  have FW := Lib.hid hsl5
                  clear hH hK hb2 K hrow5 hsl5 FN
                  intro hH
                  try simp only [Act.put, List.setIfInBounds_toArray, List.set_cons_zero, List.set_cons_succ]
                  refine tree_node ?_
                  refine tree_move rfl (by rfl) (fun K hK => ?_) ?_
                  · refine wp_appS fld_ty _ _ rfl w2.heap.size _ (i + 1) _ rfl FA.out _ A5 _ C5 _ rfl FW.out (fldsV_one _) (by have := without_length_le (O.drop (i + 1)) [f.1]; rw [List.length_drop, HnO.out] at this; omega) (by have := without_length_le (O.drop (i + 1)) [f.1]; rw [List.length_drop, HnO.out] at this; simp only [maxLen]; omega) hH.out.size ?_
                    intro v7 w7 hown7 hgr
                    refine hK.out _ _ (hH.out.grown hgr hH.out.size (fun q hq => (FA.out.lt q hq).1)) ?_
                    have FZ := Lib.hid hown7
                    clear hK K hown7 hgr FA FW
                    intro hH
                    try simp only [Act.put, List.setIfInBounds_toArray, List.set_cons_zero, List.set_cons_succ]
                    iterate 1
                      refine tree_take (v := ?_) rfl (by rfl) ?_ ?_
                      rotate_left
                      · intro w2 hSw
                        have e0 := (hSw.cell (p := ⟨wr.heap.size, 0, none⟩) hbx).trans d0
                        have e1 := (hSw.cell (p := ⟨wr.heap.size, 1, none⟩) hbx).trans d1
                        clear hSw
                        go_simp
                        try with_reducible rfl
                      try simp only [Act.put, List.setIfInBounds_toArray, List.set_cons_zero, List.set_cons_succ]
                    refine tree_done ?_
                    have hb := B2.out.trans (hH.out.mono B2.out.size)
                    have q := own_mono FZ.out B2.out.size
                    have Hb := Lib.hid hb
                    have Hq := Lib.hid q
                    clear hb q hH
                    go_wp2
                    go_roundw
                    case rel => exact ⟨k + 1, by omega, by go_num, by rw [Hsn.out, List.length_append, List.length_append, List.length_take, HnO.out, Nat.min_eq_left (by omega), fldsV_append, fldsV_append, HF.out]; exact Hq.out, Hb.out⟩
                    case measure => simp [intOf]; omega
                  exact tree_stop
                exact tree_stop
              exact tree_stop
            exact tree_stop
          refine tree_move rfl (by rfl) (fun K hK => ?_) ?_
          · go_simp
            refine hK.out _ _ (hH.out.alloc hH.out.size _) ?_
            have FN := Lib.hid (row_at hH 9 [.string X])
            try (have HNE := Lib.hid (ne_new hH FC.out))
            try (replace FC := Lib.hid (FC.out.alloc (.cells #[.string X] 9)))
            try (replace FM := Lib.hid (FM.out.alloc (.cells #[.string X] 9)))
            try (replace FA := Lib.hid (FA.out.alloc (.cells #[.string X] 9)))
            clear hH hK K
            intro hH
            try simp only [Act.put, List.setIfInBounds_toArray, List.set_cons_zero, List.set_cons_succ]
            refine tree_node ?_
            refine tree_move rfl (by rfl) (fun K hK => ?_) ?_
            · go_simp
              refine hK.out _ _ (hH.out.alloc hH.out.size _) ?_
              have FM := Lib.hid (row_at hH 44 [.string X, .string Y])
              try (replace FC := Lib.hid (FC.out.alloc (.cells #[.string X, .string Y] 44)))
              try (replace FN := Lib.hid (FN.out.alloc (.cells #[.string X, .string Y] 44)))
              clear hH hK K
              intro hH
              try simp only [Act.put, List.setIfInBounds_toArray, List.set_cons_zero, List.set_cons_succ]
              refine tree_node ?_
              refine tree_move rfl (by rfl) (fun K hK => ?_) ?_
              · refine wp_appS fld_ty _ _ rfl w2.heap.size _ i _ rfl FC.out _ _ 1 1 [.string X, .string Y] rfl ((row_size FM.out (by simp)).slice (size := 2) (n := 1) (c := 1) rfl (Nat.le_refl _) (by simp [maxLen])) (by rw [← HF.out]; exact fldsV_one [f]) (by omega) (by simp only [maxLen]; omega) hH.out.size ?_
                intro v6 w6 hown6 hgr
                refine hK.out _ _ (hH.out.grown hgr hH.out.size (fun q hq => (FC.out.lt q hq).1)) ?_
                have FA := Lib.hid hown6
                try (replace FN := Lib.hid (row_grown FN.out hgr HNE.out))
                clear hH hK K hown6 hgr FM FC
                intro hH
                try simp only [Act.put, List.setIfInBounds_toArray, List.set_cons_zero, List.set_cons_succ]
                refine tree_node ?_
                refine tree_move rfl (by rfl) (fun K hK => ?_) ?_
                · go_simp
                  refine (Without_any _ _ _ (O.drop (i + 1)) _ 1 1 [f.1] _ (own_drop (own_below R2.out hH.out) (i + 1) (by omega) _ (fun hlt => by first | rfl | rw [if_neg (by omega)])) (by omega) (fun x hx => HO.out x (List.mem_of_mem_drop hx)) (by rw [HX.out]; exact (row_size FN.out (by simp)).slice (size := 1) (n := 1) (c := 1) rfl (Nat.le_refl _) (by simp [maxLen])) (by omega) Hm3.out).mono ?_
                  rintro e w5 ⟨v5, rfl, hrow5, hb2⟩
                  obtain ⟨A5, C5, rfl, hsl5⟩ := own_slice hrow5
                  refine hK.out _ _ (below_step hH.out hb2) ?_
                  replace FA := Lib.hid (own_below FA.out hb2)
                  have FW := Lib.hid hsl5
                  clear hH hK hb2 K hrow5 hsl5 FN
                  intro hH
                  try simp only [Act.put, List.setIfInBounds_toArray, List.set_cons_zero, List.set_cons_succ]
                  refine tree_node ?_
                  refine tree_move rfl (by rfl) (fun K hK => ?_) ?_
                  · refine wp_appS fld_ty _ _ rfl w2.heap.size _ (i + 1) _ rfl FA.out _ A5 _ C5 _ rfl FW.out (fldsV_one _) (by have := without_length_le (O.drop (i + 1)) [f.1]; rw [List.length_drop, HnO.out] at this; omega) (by have := without_length_le (O.drop (i + 1)) [f.1]; rw [List.length_drop, HnO.out] at this; simp only [maxLen]; omega) hH.out.size ?_
                    intro v7 w7 hown7 hgr
                    refine hK.out _ _ (hH.out.grown hgr hH.out.size (fun q hq => (FA.out.lt q hq).1)) ?_
                    have FZ := Lib.hid hown7
                    clear hK K hown7 hgr FA FW
                    intro hH
                    try simp only [Act.put, List.setIfInBounds_toArray, List.set_cons_zero, List.set_cons_succ]
                    iterate 1
                      refine tree_take (v := ?_) rfl (by rfl) ?_ ?_
                      rotate_left
                      · intro w2 hSw
                        have e0 := (hSw.cell (p := ⟨wr.heap.size, 0, none⟩) hbx).trans d0
                        have e1 := (hSw.cell (p := ⟨wr.heap.size, 1, none⟩) hbx).trans d1
                        clear hSw
                        go_simp
                        try with_reducible rfl
                      try simp only [Act.put, List.setIfInBounds_toArray, List.set_cons_zero, List.set_cons_succ]
                    refine tree_done ?_
                    have hb := B2.out.trans (hH.out.mono B2.out.size)
                    have q := own_mono FZ.out B2.out.size
                    have Hb := Lib.hid hb
                    have Hq := Lib.hid q
                    clear hb q hH
                    go_wp2
                    go_roundw
                    case rel => exact ⟨k + 1, by omega, by go_num, by rw [Hsn.out, List.length_append, List.length_append, List.length_take, HnO.out, Nat.min_eq_left (by omega), fldsV_append, fldsV_append, HF.out]; exact Hq.out, Hb.out⟩
                    case measure => simp [intOf]; omega
                  exact tree_stop
                exact tree_stop
              exact tree_stop
            exact tree_stop
          exact tree_stop
        refine tree_move rfl (by rfl) (fun K hK => ?_) ?_
        · go_simp
          refine hK.out _ _ (hH.out.alloc hH.out.size _) ?_
          have FM := Lib.hid (row_at hH 44 [.string X, .string Y])
          try (replace FC := Lib.hid (FC.out.alloc (.cells #[.string X, .string Y] 44)))
          try (replace FN := Lib.hid (FN.out.alloc (.cells #[.string X, .string Y] 44)))
          clear hH hK K
          intro hH
          try simp only [Act.put, List.setIfInBounds_toArray, List.set_cons_zero, List.set_cons_succ]
          refine tree_node ?_
          refine tree_move rfl (by rfl) (fun K hK => ?_) ?_
          · go_simp
            (with_reducible refine (clone_any (some ⟨g, 0, none⟩) i CO (O.take i) _ (own_take (own_below R2.out hH.out) i (by omega)) (by omega)).mono ?_)
            rintro e w3 ⟨v3, rfl, hrow3, hb2⟩
            rw [Hco.out] at hrow3
            refine hK.out _ _ (below_step hH.out hb2) ?_
            have FC := Lib.hid (own_mono hrow3 hH.out.size)
            try (have HNE := Lib.hid (ne_old hrow3 FN.out.lt))
            try (replace FM := Lib.hid (FM.out.below hb2 FM.out.lt))
            try (replace FN := Lib.hid (FN.out.below hb2 FN.out.lt))
            clear hH hK hb2 K hrow3
            intro hH
            try simp only [Act.put, List.setIfInBounds_toArray, List.set_cons_zero, List.set_cons_succ]
            refine tree_node ?_
            refine tree_move rfl (by rfl) (fun K hK => ?_) ?_
            · refine wp_appS fld_ty _ _ rfl w2.heap.size _ i _ rfl FC.out _ _ 1 1 [.string X, .string Y] rfl ((row_size FM.out (by simp)).slice (size := 2) (n := 1) (c := 1) rfl (Nat.le_refl _) (by simp [maxLen])) (by rw [← HF.out]; exact fldsV_one [f]) (by omega) (by simp only [maxLen]; omega) hH.out.size ?_
              intro v6 w6 hown6 hgr
              refine hK.out _ _ (hH.out.grown hgr hH.out.size (fun q hq => (FC.out.lt q hq).1)) ?_
              have FA := Lib.hid hown6
              try (replace FN := Lib.hid (row_grown FN.out hgr HNE.out))
              clear hH hK K hown6 hgr FM FC
              intro hH
              try simp only [Act.put, List.setIfInBounds_toArray, List.set_cons_zero, List.set_cons_succ]
              refine tree_node ?_
              refine tree_move rfl (by rfl) (fun K hK => ?_) ?_
              · go_simp
                refine hK.out _ _ (hH.out.alloc hH.out.size _) ?_
                have FN := Lib.hid (row_at hH 9 [.string X])
                try (have HNE := Lib.hid (ne_new hH FC.out))
                try (replace FC := Lib.hid (FC.out.alloc (.cells #[.string X] 9)))
                try (replace FM := Lib.hid (FM.out.alloc (.cells #[.string X] 9)))
                try (replace FA := Lib.hid (FA.out.alloc (.cells #[.string X] 9)))
                clear hH hK K
                intro hH
                try simp only [Act.put, List.setIfInBounds_toArray, List.set_cons_zero, List.set_cons_succ]
                refine tree_node ?_
                refine tree_move rfl (by rfl) (fun K hK => ?_) ?_
                · go_simp
                  refine (Without_any _ _ _ (O.drop (i + 1)) _ 1 1 [f.1] _ (own_drop (own_below R2.out hH.out) (i + 1) (by omega) _ (fun hlt => by first | rfl | rw [if_neg (by omega)])) (by omega) (fun x hx => HO.out x (List.mem_of_mem_drop hx)) (by rw [HX.out]; exact (row_size FN.out (by simp)).slice (size := 1) (n := 1) (c := 1) rfl (Nat.le_refl _) (by simp [maxLen])) (by omega) Hm3.out).mono ?_
                  rintro e w5 ⟨v5, rfl, hrow5, hb2⟩
                  obtain ⟨A5, C5, rfl, hsl5⟩ := own_slice hrow5
                  refine hK.out _ _ (below_step hH.out hb2) ?_
                  replace FA := Lib.hid (own_below FA.out hb2)
                  have FW := Lib.hid hsl5
                  clear hH hK hb2 K hrow5 hsl5 FN
                  intro hH
                  try simp only [Act.put, List.setIfInBounds_toArray, List.set_cons_zero, List.set_cons_succ]
                  refine tree_node ?_
                  refine tree_move rfl (by rfl) (fun K hK => ?_) ?_
                  · refine wp_appS fld_ty _ _ rfl w2.heap.size _ (i + 1) _ rfl FA.out _ A5 _ C5 _ rfl FW.out (fldsV_one _) (by have := without_length_le (O.drop (i + 1)) [f.1]; rw [List.length_drop, HnO.out] at this; omega) (by have := without_length_le (O.drop (i + 1)) [f.1]; rw [List.length_drop, HnO.out] at this; simp only [maxLen]; omega) hH.out.size ?_
                    intro v7 w7 hown7 hgr
                    refine hK.out _ _ (hH.out.grown hgr hH.out.size (fun q hq => (FA.out.lt q hq).1)) ?_
                    have FZ := Lib.hid hown7
                    clear hK K hown7 hgr FA FW
                    intro hH
                    try simp only [Act.put, List.setIfInBounds_toArray, List.set_cons_zero, List.set_cons_succ]
                    iterate 1
                      refine tree_take (v := ?_) rfl (by rfl) ?_ ?_
                      rotate_left
                      · intro w2 hSw
                        have e0 := (hSw.cell (p := ⟨wr.heap.size, 0, none⟩) hbx).trans d0
                        have e1 := (hSw.cell (p := ⟨wr.heap.size, 1, none⟩) hbx).trans d1
                        clear hSw
                        go_simp
                        try with_reducible rfl
                      try simp only [Act.put, List.setIfInBounds_toArray, List.set_cons_zero, List.set_cons_succ]
                    refine tree_done ?_
                    have hb := B2.out.trans (hH.out.mono B2.out.size)
                    have q := own_mono FZ.out B2.out.size
                    have Hb := Lib.hid hb
                    have Hq := Lib.hid q
                    clear hb q hH
                    go_wp2
                    go_roundw
                    case rel => exact ⟨k + 1, by omega, by go_num, by rw [Hsn.out, List.length_append, List.length_append, List.length_take, HnO.out, Nat.min_eq_left (by omega), fldsV_append, fldsV_append, HF.out]; exact Hq.out, Hb.out⟩
                    case measure => simp [intOf]; omega
                  exact tree_stop
                exact tree_stop
              exact tree_stop
            refine tree_move rfl (by rfl) (fun K hK => ?_) ?_
            · go_simp
              refine hK.out _ _ (hH.out.alloc hH.out.size _) ?_
              have FN := Lib.hid (row_at hH 9 [.string X])
              try (have HNE := Lib.hid (ne_new hH FC.out))
              try (replace FC := Lib.hid (FC.out.alloc (.cells #[.string X] 9)))
              try (replace FM := Lib.hid (FM.out.alloc (.cells #[.string X] 9)))
              try (replace FA := Lib.hid (FA.out.alloc (.cells #[.string X] 9)))
              clear hH hK K
              intro hH
              try simp only [Act.put, List.setIfInBounds_toArray, List.set_cons_zero, List.set_cons_succ]
              refine tree_node ?_
              refine tree_move rfl (by rfl) (fun K hK => ?_) ?_
              · refine wp_appS fld_ty _ _ rfl w2.heap.size _ i _ rfl FC.out _ _ 1 1 [.string X, .string Y] rfl ((row_size FM.out (by simp)).slice (size := 2) (n := 1) (c := 1) rfl (Nat.le_refl _) (by simp [maxLen])) (by rw [← HF.out]; exact fldsV_one [f]) (by omega) (by simp only [maxLen]; omega) hH.out.size ?_
                intro v6 w6 hown6 hgr
                refine hK.out _ _ (hH.out.grown hgr hH.out.size (fun q hq => (FC.out.lt q hq).1)) ?_
                have FA := Lib.hid hown6
                try (replace FN := Lib.hid (row_grown FN.out hgr HNE.out))
                clear hH hK K hown6 hgr FM FC
                intro hH
                try simp only [Act.put, List.setIfInBounds_toArray, List.set_cons_zero, List.set_cons_succ]
                refine tree_node ?_
                refine tree_move rfl (by rfl) (fun K hK => ?_) ?_
                · go_simp
                  refine (Without_any _ _ _ (O.drop (i + 1)) _ 1 1 [f.1] _ (own_drop (own_below R2.out hH.out) (i + 1) (by omega) _ (fun hlt => by first | rfl | rw [if_neg (by omega)])) (by omega) (fun x hx => HO.out x (List.mem_of_mem_drop hx)) (by rw [HX.out]; exact (row_size FN.out (by simp)).slice (size := 1) (n := 1) (c := 1) rfl (Nat.le_refl _) (by simp [maxLen])) (by omega) Hm3.out).mono ?_
                  rintro e w5 ⟨v5, rfl, hrow5, hb2⟩
                  obtain ⟨A5, C5, rfl, hsl5⟩ := own_slice hrow5
                  refine hK.out _ _ (below_step hH.out hb2) ?_
                  replace FA := Lib.hid (own_below FA.out hb2)
                  have FW := Lib.hid hsl5
                  clear hH hK hb2 K hrow5 hsl5 FN
                  intro hH
                  try simp only [Act.put, List.setIfInBounds_toArray, List.set_cons_zero, List.set_cons_succ]
                  refine tree_node ?_
                  refine tree_move rfl (by rfl) (fun K hK => ?_) ?_
                  · refine wp_appS fld_ty _ _ rfl w2.heap.size _ (i + 1) _ rfl FA.out _ A5 _ C5 _ rfl FW.out (fldsV_one _) (by have := without_length_le (O.drop (i + 1)) [f.1]; rw [List.length_drop, HnO.out] at this; omega) (by have := without_length_le (O.drop (i + 1)) [f.1]; rw [List.length_drop, HnO.out] at this; simp only [maxLen]; omega) hH.out.size ?_
                    intro v7 w7 hown7 hgr
                    refine hK.out _ _ (hH.out.grown hgr hH.out.size (fun q hq => (FA.out.lt q hq).1)) ?_
                    have FZ := Lib.hid hown7
                    clear hK K hown7 hgr FA FW
                    intro hH
                    try simp only [Act.put, List.setIfInBounds_toArray, List.set_cons_zero, List.set_cons_succ]
                    iterate 1
                      refine tree_take (v := ?_) rfl (by rfl) ?_ ?_
                      rotate_left
                      · intro w2 hSw
                        have e0 := (hSw.cell (p := ⟨wr.heap.size, 0, none⟩) hbx).trans d0
                        have e1 := (hSw.cell (p := ⟨wr.heap.size, 1, none⟩) hbx).trans d1
                        clear hSw
                        go_simp
                        try with_reducible rfl
                      try simp only [Act.put, List.setIfInBounds_toArray, List.set_cons_zero, List.set_cons_succ]
                    refine tree_done ?_
                    have hb := B2.out.trans (hH.out.mono B2.out.size)
                    have q := own_mono FZ.out B2.out.size
                    have Hb := Lib.hid hb
                    have Hq := Lib.hid q
                    clear hb q hH
                    go_wp2
                    go_roundw
                    case rel => exact ⟨k + 1, by omega, by go_num, by rw [Hsn.out, List.length_append, List.length_append, List.length_take, HnO.out, Nat.min_eq_left (by omega), fldsV_append, fldsV_append, HF.out]; exact Hq.out, Hb.out⟩
                    case measure => simp [intOf]; omega
                  exact tree_stop
                exact tree_stop
              exact tree_stop
            exact tree_stop
          refine tree_move rfl (by rfl) (fun K hK => ?_) ?_
          · go_simp
            refine hK.out _ _ (hH.out.alloc hH.out.size _) ?_
            have FN := Lib.hid (row_at hH 9 [.string X])
            try (have HNE := Lib.hid (ne_new hH FC.out))
            try (replace FC := Lib.hid (FC.out.alloc (.cells #[.string X] 9)))
            try (replace FM := Lib.hid (FM.out.alloc (.cells #[.string X] 9)))
            try (replace FA := Lib.hid (FA.out.alloc (.cells #[.string X] 9)))
            clear hH hK K
            intro hH
            try simp only [Act.put, List.setIfInBounds_toArray, List.set_cons_zero, List.set_cons_succ]
            refine tree_node ?_
            refine tree_move rfl (by rfl) (fun K hK => ?_) ?_
            · go_simp
              (with_reducible refine (clone_any (some ⟨g, 0, none⟩) i CO (O.take i) _ (own_take (own_below R2.out hH.out) i (by omega)) (by omega)).mono ?_)
              rintro e w3 ⟨v3, rfl, hrow3, hb2⟩
              rw [Hco.out] at hrow3
              refine hK.out _ _ (below_step hH.out hb2) ?_
              have FC := Lib.hid (own_mono hrow3 hH.out.size)
              try (have HNE := Lib.hid (ne_old hrow3 FN.out.lt))
              try (replace FM := Lib.hid (FM.out.below hb2 FM.out.lt))
              try (replace FN := Lib.hid (FN.out.below hb2 FN.out.lt))
              clear hH hK hb2 K hrow3
              intro hH
              try simp only [Act.put, List.setIfInBounds_toArray, List.set_cons_zero, List.set_cons_succ]
              refine tree_node ?_
              refine tree_move rfl (by rfl) (fun K hK => ?_) ?_
              · refine wp_appS fld_ty _ _ rfl w2.heap.size _ i _ rfl FC.out _ _ 1 1 [.string X, .string Y] rfl ((row_size FM.out (by simp)).slice (size := 2) (n := 1) (c := 1) rfl (Nat.le_refl _) (by simp [maxLen])) (by rw [← HF.out]; exact fldsV_one [f]) (by omega) (by simp only [maxLen]; omega) hH.out.size ?_
                intro v6 w6 hown6 hgr
                refine hK.out _ _ (hH.out.grown hgr hH.out.size (fun q hq => (FC.out.lt q hq).1)) ?_
                have FA := Lib.hid hown6
                try (replace FN := Lib.hid (row_grown FN.out hgr HNE.out))
                clear hH hK K hown6 hgr FM FC
                intro hH
                try simp only [Act.put, List.setIfInBounds_toArray, List.set_cons_zero, List.set_cons_succ]
                refine tree_node ?_
                refine tree_move rfl (by rfl) (fun K hK => ?_) ?_
                · go_simp
                  refine (Without_any _ _ _ (O.drop (i + 1)) _ 1 1 [f.1] _ (own_drop (own_below R2.out hH.out) (i + 1) (by omega) _ (fun hlt => by first | rfl | rw [if_neg (by omega)])) (by omega) (fun x hx => HO.out x (List.mem_of_mem_drop hx)) (by rw [HX.out]; exact (row_size FN.out (by simp)).slice (size := 1) (n := 1) (c := 1) rfl (Nat.le_refl _) (by simp [maxLen])) (by omega) Hm3.out).mono ?_
                  rintro e w5 ⟨v5, rfl, hrow5, hb2⟩
                  obtain ⟨A5, C5, rfl, hsl5⟩ := own_slice hrow5
                  refine hK.out _ _ (below_step hH.out hb2) ?_
                  replace FA := Lib.hid (own_below FA.out hb2)
                  have FW := Lib.hid hsl5
                  clear hH hK hb2 K hrow5 hsl5 FN
                  intro hH
                  try simp only [Act.put, List.setIfInBounds_toArray, List.set_cons_zero, List.set_cons_succ]
                  refine tree_node ?_
                  refine tree_move rfl (by rfl) (fun K hK => ?_) ?_
                  · refine wp_appS fld_ty _ _ rfl w2.heap.size _ (i + 1) _ rfl FA.out _ A5 _ C5 _ rfl FW.out (fldsV_one _) (by have := without_length_le (O.drop (i + 1)) [f.1]; rw [List.length_drop, HnO.out] at this; omega) (by have := without_length_le (O.drop (i + 1)) [f.1]; rw [List.length_drop, HnO.out] at this; simp only [maxLen]; omega) hH.out.size ?_
                    intro v7 w7 hown7 hgr
                    refine hK.out _ _ (hH.out.grown hgr hH.out.size (fun q hq => (FA.out.lt q hq).1)) ?_
                    have FZ := Lib.hid hown7
                    clear hK K hown7 hgr FA FW
                    intro hH
                    try simp only [Act.put, List.setIfInBounds_toArray, List.set_cons_zero, List.set_cons_succ]
                    iterate 1
                      refine tree_take (v := ?_) rfl (by rfl) ?_ ?_
                      rotate_left
                      · intro w2 hSw
                        have e0 := (hSw.cell (p := ⟨wr.heap.size, 0, none⟩) hbx).trans d0
                        have e1 := (hSw.cell (p := ⟨wr.heap.size, 1, none⟩) hbx).trans d1
                        clear hSw
                        go_simp
                        try with_reducible rfl
                      try simp only [Act.put, List.setIfInBounds_toArray, List.set_cons_zero, List.set_cons_succ]
                    refine tree_done ?_
                    have hb := B2.out.trans (hH.out.mono B2.out.size)
                    have q := own_mono FZ.out B2.out.size
                    have Hb := Lib.hid hb
                    have Hq := Lib.hid q
                    clear hb q hH
                    go_wp2
                    go_roundw
                    case rel => exact ⟨k + 1, by omega, by go_num, by rw [Hsn.out, List.length_append, List.length_append, List.length_take, HnO.out, Nat.min_eq_left (by omega), fldsV_append, fldsV_append, HF.out]; exact Hq.out, Hb.out⟩
                    case measure => simp [intOf]; omega
                  exact tree_stop
                exact tree_stop
              exact tree_stop
            exact tree_stop
          exact tree_stop
        refine tree_move rfl (by rfl) (fun K hK => ?_) ?_
        · go_simp
          refine hK.out _ _ (hH.out.alloc hH.out.size _) ?_
          have FN := Lib.hid (row_at hH 9 [.string X])
          try (have HNE := Lib.hid (ne_new hH FC.out))
          try (replace FC := Lib.hid (FC.out.alloc (.cells #[.string X] 9)))
          try (replace FM := Lib.hid (FM.out.alloc (.cells #[.string X] 9)))
          try (replace FA := Lib.hid (FA.out.alloc (.cells #[.string X] 9)))
          clear hH hK K
          intro hH
          try simp only [Act.put, List.setIfInBounds_toArray, List.set_cons_zero, List.set_cons_succ]
          refine tree_node ?_
          refine tree_move rfl (by rfl) (fun K hK => ?_) ?_
          · go_simp
            (with_reducible refine (clone_any (some ⟨g, 0, none⟩) i CO (O.take i) _ (own_take (own_below R2.out hH.out) i (by omega)) (by omega)).mono ?_)
            rintro e w3 ⟨v3, rfl, hrow3, hb2⟩
            rw [Hco.out] at hrow3
            refine hK.out _ _ (below_step hH.out hb2) ?_
            have FC := Lib.hid (own_mono hrow3 hH.out.size)
            try (have HNE := Lib.hid (ne_old hrow3 FN.out.lt))
            try (replace FM := Lib.hid (FM.out.below hb2 FM.out.lt))
            try (replace FN := Lib.hid (FN.out.below hb2 FN.out.lt))
            clear hH hK hb2 K hrow3
            intro hH
            try simp only [Act.put, List.setIfInBounds_toArray, List.set_cons_zero, List.set_cons_succ]
            refine tree_node ?_
            refine tree_move rfl (by rfl) (fun K hK => ?_) ?_
            · go_simp
              refine hK.out _ _ (hH.out.alloc hH.out.size _) ?_
              have FM := Lib.hid (row_at hH 44 [.string X, .string Y])
              try (replace FC := Lib.hid (FC.out.alloc (.cells #[.string X, .string Y] 44)))
              try (replace FN := Lib.hid (FN.out.alloc (.cells #[.string X, .string Y] 44)))
              clear hH hK K
              intro hH
              try simp only [Act.put, List.setIfInBounds_toArray, List.set_cons_zero, List.set_cons_succ]
              refine tree_node ?_
              refine tree_move rfl (by rfl) (fun K hK => ?_) ?_
              · refine wp_appS fld_ty _ _ rfl w2.heap.size _ i _ rfl FC.out _ _ 1 1 [.string X, .string Y] rfl ((row_size FM.out (by simp)).slice (size := 2) (n := 1) (c := 1) rfl (Nat.le_refl _) (by simp [maxLen])) (by rw [← HF.out]; exact fldsV_one [f]) (by omega) (by simp only [maxLen]; omega) hH.out.size ?_
                intro v6 w6 hown6 hgr
                refine hK.out _ _ (hH.out.grown hgr hH.out.size (fun q hq => (FC.out.lt q hq).1)) ?_
                have FA := Lib.hid hown6
                try (replace FN := Lib.hid (row_grown FN.out hgr HNE.out))
                clear hH hK K hown6 hgr FM FC
                intro hH
                try simp only [Act.put, List.setIfInBounds_toArray, List.set_cons_zero, List.set_cons_succ]
                refine tree_node ?_
                refine tree_move rfl (by rfl) (fun K hK => ?_) ?_
                · go_simp
                  refine (Without_any _ _ _ (O.drop (i + 1)) _ 1 1 [f.1] _ (own_drop (own_below R2.out hH.out) (i + 1) (by omega) _ (fun hlt => by first | rfl | rw [if_neg (by omega)])) (by omega) (fun x hx => HO.out x (List.mem_of_mem_drop hx)) (by rw [HX.out]; exact (row_size FN.out (by simp)).slice (size := 1) (n := 1) (c := 1) rfl (Nat.le_refl _) (by simp [maxLen])) (by omega) Hm3.out).mono ?_
                  rintro e w5 ⟨v5, rfl, hrow5, hb2⟩
                  obtain ⟨A5, C5, rfl, hsl5⟩ := own_slice hrow5
                  refine hK.out _ _ (below_step hH.out hb2) ?_
                  replace FA := Lib.hid (own_below FA.out hb2)
                  have FW := Lib.hid hsl5
                  clear hH hK hb2 K hrow5 hsl5 FN
                  intro hH
                  try simp only [Act.put, List.setIfInBounds_toArray, List.set_cons_zero, List.set_cons_succ]
                  refine tree_node ?_
                  refine tree_move rfl (by rfl) (fun K hK => ?_) ?_
                  · refine wp_appS fld_ty _ _ rfl w2.heap.size _ (i + 1) _ rfl FA.out _ A5 _ C5 _ rfl FW.out (fldsV_one _) (by have := without_length_le (O.drop (i + 1)) [f.1]; rw [List.length_drop, HnO.out] at this; omega) (by have := without_length_le (O.drop (i + 1)) [f.1]; rw [List.length_drop, HnO.out] at this; simp only [maxLen]; omega) hH.out.size ?_
                    intro v7 w7 hown7 hgr
                    refine hK.out _ _ (hH.out.grown hgr hH.out.size (fun q hq => (FA.out.lt q hq).1)) ?_
                    have FZ := Lib.hid hown7
                    clear hK K hown7 hgr FA FW
                    intro hH
                    try simp only [Act.put, List.setIfInBounds_toArray, List.set_cons_zero, List.set_cons_succ]
                    iterate 1
                      refine tree_take (v := ?_) rfl (by rfl) ?_ ?_
                      rotate_left
                      · intro w2 hSw
                        have e0 := (hSw.cell (p := ⟨wr.heap.size, 0, none⟩) hbx).trans d0
                        have e1 := (hSw.cell (p := ⟨wr.heap.size, 1, none⟩) hbx).trans d1
                        clear hSw
                        go_simp
                        try with_reducible rfl
                      try simp only [Act.put, List.setIfInBounds_toArray, List.set_cons_zero, List.set_cons_succ]
                    refine tree_done ?_
                    have hb := B2.out.trans (hH.out.mono B2.out.size)
                    have q := own_mono FZ.out B2.out.size
                    have Hb := Lib.hid hb
                    have Hq := Lib.hid q
                    clear hb q hH
                    go_wp2
                    go_roundw
                    case rel => exact ⟨k + 1, by omega, by go_num, by rw [Hsn.out, List.length_append, List.length_append, List.length_take, HnO.out, Nat.min_eq_left (by omega), fldsV_append, fldsV_append, HF.out]; exact Hq.out, Hb.out⟩
                    case measure => simp [intOf]; omega
                  exact tree_stop
                exact tree_stop
              exact tree_stop
            exact tree_stop
          refine tree_move rfl (by rfl) (fun K hK => ?_) ?_
          · go_simp
            refine hK.out _ _ (hH.out.alloc hH.out.size _) ?_
            have FM := Lib.hid (row_at hH 44 [.string X, .string Y])
            try (replace FC := Lib.hid (FC.out.alloc (.cells #[.string X, .string Y] 44)))
            try (replace FN := Lib.hid (FN.out.alloc (.cells #[.string X, .string Y] 44)))
            clear hH hK K
            intro hH
            try simp only [Act.put, List.setIfInBounds_toArray, List.set_cons_zero, List.set_cons_succ]
            refine tree_node ?_
            refine tree_move rfl (by rfl) (fun K hK => ?_) ?_
            · go_simp
              (with_reducible refine (clone_any (some ⟨g, 0, none⟩) i CO (O.take i) _ (own_take (own_below R2.out hH.out) i (by omega)) (by omega)).mono ?_)
              rintro e w3 ⟨v3, rfl, hrow3, hb2⟩
              rw [Hco.out] at hrow3
              refine hK.out _ _ (below_step hH.out hb2) ?_
              have FC := Lib.hid (own_mono hrow3 hH.out.size)
              try (have HNE := Lib.hid (ne_old hrow3 FN.out.lt))
              try (replace FM := Lib.hid (FM.out.below hb2 FM.out.lt))
              try (replace FN := Lib.hid (FN.out.below hb2 FN.out.lt))
              clear hH hK hb2 K hrow3
              intro hH
              try simp only [Act.put, List.setIfInBounds_toArray, List.set_cons_zero, List.set_cons_succ]
              refine tree_node ?_
              refine tree_move rfl (by rfl) (fun K hK => ?_) ?_
              · refine wp_appS fld_ty _ _ rfl w2.heap.size _ i _ rfl FC.out _ _ 1 1 [.string X, .string Y] rfl ((row_size FM.out (by simp)).slice (size := 2) (n := 1) (c := 1) rfl (Nat.le_refl _) (by simp [maxLen])) (by rw [← HF.out]; exact fldsV_one [f]) (by omega) (by simp only [maxLen]; omega) hH.out.size ?_
                intro v6 w6 hown6 hgr
                refine hK.out _ _ (hH.out.grown hgr hH.out.size (fun q hq => (FC.out.lt q hq).1)) ?_
                have FA := Lib.hid hown6
                try (replace FN := Lib.hid (row_grown FN.out hgr HNE.out))
                clear hH hK K hown6 hgr FM FC
                intro hH
                try simp only [Act.put, List.setIfInBounds_toArray, List.set_cons_zero, List.set_cons_succ]
                refine tree_node ?_
                refine tree_move rfl (by rfl) (fun K hK => ?_) ?_
                · go_simp
                  refine (Without_any _ _ _ (O.drop (i + 1)) _ 1 1 [f.1] _ (own_drop (own_below R2.out hH.out) (i + 1) (by omega) _ (fun hlt => by first | rfl | rw [if_neg (by omega)])) (by omega) (fun x hx => HO.out x (List.mem_of_mem_drop hx)) (by rw [HX.out]; exact (row_size FN.out (by simp)).slice (size := 1) (n := 1) (c := 1) rfl (Nat.le_refl _) (by simp [maxLen])) (by omega) Hm3.out).mono ?_
                  rintro e w5 ⟨v5, rfl, hrow5, hb2⟩
                  obtain ⟨A5, C5, rfl, hsl5⟩ := own_slice hrow5
                  refine hK.out _ _ (below_step hH.out hb2) ?_
                  replace FA := Lib.hid (own_below FA.out hb2)
                  have FW := Lib.hid hsl5
                  clear hH hK hb2 K hrow5 hsl5 FN
                  intro hH
                  try simp only [Act.put, List.setIfInBounds_toArray, List.set_cons_zero, List.set_cons_succ]
                  refine tree_node ?_
                  refine tree_move rfl (by rfl) (fun K hK => ?_) ?_
                  · refine wp_appS fld_ty _ _ rfl w2.heap.size _ (i + 1) _ rfl FA.out _ A5 _ C5 _ rfl FW.out (fldsV_one _) (by have := without_length_le (O.drop (i + 1)) [f.1]; rw [List.length_drop, HnO.out] at this; omega) (by have := without_length_le (O.drop (i + 1)) [f.1]; rw [List.length_drop, HnO.out] at this; simp only [maxLen]; omega) hH.out.size ?_
                    intro v7 w7 hown7 hgr
                    refine hK.out _ _ (hH.out.grown hgr hH.out.size (fun q hq => (FA.out.lt q hq).1)) ?_
                    have FZ := Lib.hid hown7
                    clear hK K hown7 hgr FA FW
                    intro hH
                    try simp only [Act.put, List.setIfInBounds_toArray, List.set_cons_zero, List.set_cons_succ]
                    iterate 1
                      refine tree_take (v := ?_) rfl (by rfl) ?_ ?_
                      rotate_left
                      · intro w2 hSw
                        have e0 := (hSw.cell (p := ⟨wr.heap.size, 0, none⟩) hbx).trans d0
                        have e1 := (hSw.cell (p := ⟨wr.heap.size, 1, none⟩) hbx).trans d1
                        clear hSw
                        go_simp
                        try with_reducible rfl
                      try simp only [Act.put, List.setIfInBounds_toArray, List.set_cons_zero, List.set_cons_succ]
                    refine tree_done ?_
                    have hb := B2.out.trans (hH.out.mono B2.out.size)
                    have q := own_mono FZ.out B2.out.size
                    have Hb := Lib.hid hb
                    have Hq := Lib.hid q
                    clear hb q hH
                    go_wp2
                    go_roundw
                    case rel => exact ⟨k + 1, by omega, by go_num, by rw [Hsn.out, List.length_append, List.length_append, List.length_take, HnO.out, Nat.min_eq_left (by omega), fldsV_append, fldsV_append, HF.out]; exact Hq.out, Hb.out⟩
                    case measure => simp [intOf]; omega
                  exact tree_stop
                exact tree_stop
              exact tree_stop
            exact tree_stop
          exact tree_stop
        exact tree_stop
    · obtain rfl : k = m := by omega
      have e : K.take k = K := List.take_of_length_le (by omega)
      rw [e] at Hrow
      clear e
      go_wp2
      go_ret
      exact ⟨_, rfl, Hrow.out, hbel⟩
end Go.Proofs.YtpmidmdodjgeeaaDoor
