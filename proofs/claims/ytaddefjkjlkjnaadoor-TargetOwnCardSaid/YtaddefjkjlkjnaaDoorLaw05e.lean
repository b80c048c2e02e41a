/- Layer 5's laws: TargetOwn, walked. Condition: the world's shape. -/
import Derived.Test.YtaddefjkjlkjnaaDoorLaw05d
namespace Go.Proofs.YtaddefjkjlkjnaaDoor
open Go.RowKit IH
set_option maxRecDepth 100000
theorem Held.alloc {w W : World} {L : List (Nat × List Value)} (h : Held w W L) (o : Obj) : Held w (W.alloc o) L := h.step ((Below.refl _ _).alloc (Nat.le_refl _) _)
theorem Held.only {w W W' : World} {L : List (Nat × List Value)} {g : Nat} (h : Held w W L) (ho : Only g W W') (hg : (∀ x ∈ L, x.1 < g) ∧ w.heap.size ≤ g) : Held w W' L :=
  ⟨ho.below h.1 hg.2, fun x hx => (h.2 x hx).only ho (by have := hg.1 x hx; omega)⟩
theorem Held.with_ {w W : World} {L : List (Nat × List Value)} {g : Nat} {cs : List Value} (h : Held w W L) (hr : RowAt W g 63 cs) : Held w W ((g, cs) :: L) := by
  refine ⟨h.1, fun x hx => ?_⟩
  rcases List.mem_cons.1 hx with rfl | hx
  · exact hr
  · exact h.2 x hx
theorem held_new {w W : World} {L : List (Nat × List Value)} (_ : Hid (Held w W L)) : Hid (RowAt (W.alloc (.cells #[.string ⟨#[]⟩, .int .i64 0, .string ⟨#[]⟩] 63)) W.heap.size 63 zeroC) := Lib.hid (RowAt.new W _ zeroC)
theorem held_lt {w W : World} {L : List (Nat × List Value)} (h : Hid (Held w W L)) : Hid ((∀ x ∈ L, x.1 < W.heap.size) ∧ w.heap.size ≤ W.heap.size) := Lib.hid ⟨fun x hx => (h.out.2 x hx).lt, h.out.1.size⟩
theorem Held.set {w W : World} {L : List (Nat × List Value)} {g j : Nat} {cs : List Value} {v : Value} (h : Held w W ((g, cs) :: L)) (hg : (∀ x ∈ L, x.1 < g) ∧ w.heap.size ≤ g) (hj : j < cs.length) : Held w (W.setCell ⟨g, j, none⟩ v) ((g, cs.set j v) :: L) := by
  refine ⟨h.1.setCell (p := ⟨g, j, none⟩) hg.2 v, fun x hx => ?_⟩
  rcases List.mem_cons.1 hx with rfl | hx
  · exact (h.2 (g, cs) (.head _)).set_ hj v
  · exact (h.2 x (.tail _ hx)).far (p := ⟨g, j, none⟩) (by have := hg.1 x hx; show x.1 ≠ g; omega) v
set_option maxHeartbeats 64000000 in
theorem town_walk (w : World) (hsh : w.ShapedOpen Tryd.prog) (s : ByteArray) (_hs : s.size ≤ maxLen) (t : ByteArray) (_ht : t.size ≤ maxLen) :
    Calls Tryd.prog 11 #[.string s, .string t] w fun e w' => e = .returned (.bool true) ∧ Below w.heap.size w w' := by
  have AW := Lib.hid (fun (W : World) (hW : Below w.heap.size w W) => awake05_any W (shaped_below hsh hW))
  have H0 : Hid (Held w w []) := Lib.hid (Held.start w)
  by_cases hh0 : 2000 < s.size
  · have hI0 : (2000 : Int) < (s.size : Int) := by omega
    clear hsh
    go_enter Tryd.func11, Tryd.ntmps11
    go_wp2_with (first
      | (go_at_call 36; refine (AW.out _ H0.out.below).mono ?_; rintro e w1 ⟨rfl, hb1⟩; have H1 := Lib.hid (H0.out.step hb1); clear hb1)
      | (go_at_call 36; refine (AW.out _ H1.out.below).mono ?_; rintro e w2 ⟨rfl, hb2⟩; have H2 := Lib.hid (H1.out.step hb2); clear hb2))
    go_ret
    exact ⟨rfl, H2.out.below⟩
  by_cases hh1 : 2000 < t.size
  · have hI0 : ¬ ((2000 : Int) < (s.size : Int)) := by omega
    have hI1 : (2000 : Int) < (t.size : Int) := by omega
    clear hsh
    go_enter Tryd.func11, Tryd.ntmps11
    go_wp2_with (first
      | (go_at_call 36; refine (AW.out _ H0.out.below).mono ?_; rintro e w1 ⟨rfl, hb1⟩; have H1 := Lib.hid (H0.out.step hb1); clear hb1)
      | (go_at_call 36; refine (AW.out _ H1.out.below).mono ?_; rintro e w2 ⟨rfl, hb2⟩; have H2 := Lib.hid (H1.out.step hb2); clear hb2))
    go_ret
    exact ⟨rfl, H2.out.below⟩
  have hI0 : ¬ ((2000 : Int) < (s.size : Int)) := by omega
  have hI1 : ¬ ((2000 : Int) < (t.size : Int)) := by omega
  have hsl : s.data.toList.length ≤ 2000 := by rw [data_len]; omega
  have htl : t.data.toList.length ≤ 2000 := by rw [data_len]; omega
  have PA := fun (W : World) (hW : Below w.heap.size w W) => parse5_any s (by omega) W (shaped_below hsh hW)
  obtain ⟨J, hJ⟩ : ∃ J, parseU s.data.toList = J := ⟨_, rfl⟩
  rw [hJ] at PA
  obtain ⟨UU, UE⟩ := J
  simp only [uriC] at PA
  have HJ := Lib.hid hJ
  have SH := Lib.hid (fun (W : World) (hW : Below w.heap.size w W) => shaped_below hsh hW)
  replace PA := Lib.hid PA
  clear hsh hJ hh0 hh1
  go_enter Tryd.func11, Tryd.ntmps11
  go_upto_region 4 with (first
    | (go_at_call 36; refine (AW.out _ H0.out.below).mono ?_; rintro e w1 ⟨rfl, hb1⟩; have H1 := Lib.hid (H0.out.step hb1); clear hb1)
    | (go_at_call 37; refine (PA.out _ H1.out.below).mono ?_; rintro e w3 ⟨rfl, hb3⟩; have H3 := Lib.hid (H1.out.step hb3); clear hb3; obtain ⟨g5, hg5⟩ : ∃ g, w3.heap.size = g := ⟨_, rfl⟩; obtain ⟨v3, hv3⟩ : ∃ V, w3.alloc (.cells zeroC.toArray 63) = V := ⟨_, rfl⟩; have Z3 : Hid (RowAt v3 g5 63 zeroC) := Lib.hid (by rw [← hv3, ← hg5]; exact RowAt.new w3 _ _); have N3 : Hid (Res g5 w3 v3) := Lib.hid (by rw [← hv3, ← hg5]; exact Res.start w3); rw [show zeroC.toArray = #[.string ⟨#[]⟩, .int .i64 0, .string ⟨#[]⟩] from rfl] at hv3)
    | (refine wpList_store_row rfl 63 _ _ rfl g5 63 [.string ⟨UU.host.toArray⟩, .int .i64 UU.port, .string ⟨UU.path.toArray⟩] zeroC rfl rfl Z3.out rfl (by kernel_rfl) uri_one ?_; intro w4 hq4 ho4; have H4 := Lib.hid (H3.out.add (by rw [hg5]; exact (N3.out.stored ho4 hq4 rfl).below) hq4); clear Z3 N3 H3 ho4 hq4 hg5 hv3))
  clear H0 H1 PA
  by_cases hz : UE = 0
  · subst hz
    obtain ⟨hown1, hown2⟩ := own_self hsl HJ.out
    have hown3 := own_path hsl HJ.out
    obtain ⟨hn, hh, hp, hlen, _⟩ := parseU_normal HJ.out
    have hpo0 := hn.p0
    have hpo1 := hn.p1
    have hsH : (⟨UU.host.toArray⟩ : ByteArray).size ≤ 4000 := by rw [size_mk]; omega
    have hsQ : (⟨UU.path.toArray⟩ : ByteArray).size ≤ 4000 := by rw [size_mk]; omega
    have P1 := fun W => print5_any ⟨UU.host.toArray⟩ UU.port ⟨UU.path.toArray⟩ (by omega) (by omega) (by omega) (by omega) W
    obtain ⟨T, hT⟩ : ∃ T : ByteArray, (⟨(printU UU).toArray⟩ : ByteArray) = T := ⟨_, rfl⟩
    have hTl : T.data.toList = printU UU := by rw [← hT]
    have hTs : T.size ≤ 20000 := by rw [← data_len, hTl]; have := printU_length hpo0 hpo1; rw [size_mk] at hsH hsQ; omega
    have R1 := fun (W : World) (hW : Below w.heap.size w W) => resolve5_any ⟨UU.host.toArray⟩ UU.port ⟨UU.path.toArray⟩ ⟨#[]⟩ (by omega) (by omega) (by omega) (by omega) (by decide) W (SH.out W hW)
    have R2 := fun (W : World) (hW : Below w.heap.size w W) => resolve5_any ⟨UU.host.toArray⟩ UU.port ⟨UU.path.toArray⟩ T (by omega) (by omega) (by omega) (by omega) (by omega) W (SH.out W hW)
    have R3 := fun (W : World) (hW : Below w.heap.size w W) => resolve5_any ⟨UU.host.toArray⟩ UU.port ⟨#[47, 122, 122, 57, 47, 121, 63, 122]⟩ ⟨UU.path.toArray⟩ (by omega) (by decide) (by omega) (by omega) (by omega) W (SH.out W hW)
    have R4 := fun (W : World) (hW : Below w.heap.size w W) => resolve5_any ⟨UU.host.toArray⟩ UU.port ⟨UU.path.toArray⟩ t (by omega) (by omega) (by omega) (by omega) (by omega) W (SH.out W hW)
    have PT := fun (W : World) (hW : Below w.heap.size w W) => parse5_any t (by omega) W (SH.out W hW)
    rw [show (⟨(⟨UU.host.toArray⟩ : ByteArray).data.toList, UU.port, (⟨UU.path.toArray⟩ : ByteArray).data.toList⟩ : Uri) = UU from rfl] at P1 R1 R2 R4
    rw [hT] at P1
    rw [show (⟨#[]⟩ : ByteArray).data.toList = [] from rfl, hown1] at R1
    rw [hTl, hown2] at R2
    rw [show (⟨(⟨UU.host.toArray⟩ : ByteArray).data.toList, UU.port, (⟨#[47, 122, 122, 57, 47, 121, 63, 122]⟩ : ByteArray).data.toList⟩ : Uri) = { UU with path := zz9 } from rfl, show (⟨UU.path.toArray⟩ : ByteArray).data.toList = UU.path from rfl] at R3
    obtain ⟨D, hD⟩ : ∃ D, parseU t.data.toList = D := ⟨_, rfl⟩
    obtain ⟨E, hE⟩ : ∃ E, resolveU UU t.data.toList = E := ⟨_, rfl⟩
    rw [hD] at PT
    rw [hE] at R4
    obtain ⟨DU, DE⟩ := D
    obtain ⟨EU, EE⟩ := E
    have hde : DE = 0 → EU = DU ∧ EE = 0 := by
      rintro rfl
      have := own_other hsl htl HJ.out hD
      rw [hE] at this
      simpa using this
    have HDE := Lib.hid hde
    simp only [uriC] at R1 R2 R4 PT
    have EQ := fun W => uri_same_eql ⟨UU.host.toArray⟩ UU.port ⟨UU.path.toArray⟩ W
    have EQD := fun W => uri_same_eql ⟨DU.host.toArray⟩ DU.port ⟨DU.path.toArray⟩ W
    replace P1 := Lib.hid P1
    replace R1 := Lib.hid R1
    replace R2 := Lib.hid R2
    replace R4 := Lib.hid R4
    replace PT := Lib.hid PT
    have H3P := Lib.hid hown3
    clear hde hown1 hown2 hown3 hn hh hp hlen hpo0 hpo1 hsH hT hTl hTs hsl htl hD hE
    have V0 := H4.out.get (.head _); have y0 := V0.cell (j := 0) rfl; have y1 := V0.cell (j := 1) rfl; have y2 := V0.cell (j := 2) rfl; have y9 := V0.lt; clear V0
    go_upto_region 7 with (first
      | (go_at_call 39; refine (R1.out _ H4.out.below).mono ?_; rintro e w6 ⟨rfl, hb6⟩; have H6 := Lib.hid (H4.out.step hb6); clear hb6 y0 y1 y2 y9; obtain ⟨g7, hg7⟩ : ∃ g, w6.heap.size = g := ⟨_, rfl⟩; obtain ⟨v6, hv6⟩ : ∃ V, w6.alloc (.cells zeroC.toArray 63) = V := ⟨_, rfl⟩; have Z6 : Hid (RowAt v6 g7 63 zeroC) := Lib.hid (by rw [← hv6, ← hg7]; exact RowAt.new w6 _ _); have N6 : Hid (Res g7 w6 v6) := Lib.hid (by rw [← hv6, ← hg7]; exact Res.start w6); rw [show zeroC.toArray = #[.string ⟨#[]⟩, .int .i64 0, .string ⟨#[]⟩] from rfl] at hv6)
      | (refine wpList_store_row rfl 63 _ _ rfl g7 63 [.string ⟨UU.host.toArray⟩, .int .i64 UU.port, .string ⟨UU.path.toArray⟩] zeroC rfl rfl Z6.out rfl (by kernel_rfl) uri_one ?_; intro w7 hq7 ho7; have H7 := Lib.hid (H6.out.add (by rw [hg7]; exact (N6.out.stored ho7 hq7 rfl).below) hq7); clear Z6 N6 H6 ho7 hq7 hg7 hv6))
    clear H4 R1
    go_cut [9, 10] from 43 to 49 (fun s9 s10 wx => ∃ g9, s9 = .pointer (some ⟨g9, 0, none⟩) ∧ s10 = .int .i64 0 ∧ Held w wx [(g9, [.string ⟨UU.host.toArray⟩, .int .i64 UU.port, .string ⟨UU.path.toArray⟩]), (g7, [.string ⟨UU.host.toArray⟩, .int .i64 UU.port, .string ⟨UU.path.toArray⟩]), (g5, [.string ⟨UU.host.toArray⟩, .int .i64 UU.port, .string ⟨UU.path.toArray⟩])])
    case first =>
      clear HDE H3P R3 R4 PT EQ EQD AW HJ
      refine wp_region_tree0 (fun W => Held w W [(g7, [.string ⟨UU.host.toArray⟩, .int .i64 UU.port, .string ⟨UU.path.toArray⟩]), (g5, [.string ⟨UU.host.toArray⟩, .int .i64 UU.port, .string ⟨UU.path.toArray⟩])]) (.take 0 (.take 1 (.node (.fork 2 (.node (.fork 3 (.take 4 (.take 5 (.take 6 (.node (.fork 7 (.node (.fork 8 (.take 9 (.done)) (.stop))) (.stop)))))) (.fork 7 (.node (.fork 3 (.take 4 (.take 5 (.take 6 (.node (.fork 8 (.take 9 (.done)) (.stop)))))) (.stop))) (.stop)))) (.fork 7 (.node (.fork 2 (.node (.fork 3 (.take 4 (.take 5 (.take 6 (.node (.fork 8 (.take 9 (.done)) (.stop)))))) (.stop))) (.stop))) (.stop)))))) (by kernel_rfl) (by kernel_rfl) (of_decide_eq_true (by kernel_rfl)) rfl (by kernel_rfl) (H7.out.step (below_drewN (Below.refl _ _) 1)) ?_
      intro hH
      iterate 2
        refine tree_take (v := ?_) rfl (by rfl) ?_ ?_
        rotate_left
        · intro w2 hSw
          have V0 := hSw.get (.tail _ (.head _))
          have y0 := V0.cell (j := 0) rfl
          have y1 := V0.cell (j := 1) rfl
          have y2 := V0.cell (j := 2) rfl
          clear V0
          clear hSw
          go_simp
          try with_reducible rfl
        try simp only [Act.put, List.setIfInBounds_toArray, List.set_cons_zero, List.set_cons_succ]
      refine tree_node ?_
      refine tree_move rfl (by rfl) (fun K hK => ?_) ?_
      · go_simp
        (with_reducible refine (P1.out _).mono ?_)
        rintro e v9 ⟨rfl, hb9⟩
        refine hK.out _ _ (hH.out.step hb9) ?_
        (try have FB := Lib.hid (FB.out.below hb9 FB.out.lt))
        clear hH hK hb9 K
        intro hH
        try simp only [Act.put, List.setIfInBounds_toArray, List.set_cons_zero, List.set_cons_succ]
        refine tree_node ?_
        refine tree_move rfl (by rfl) (fun K hK => ?_) ?_
        · go_simp
          (with_reducible refine (R2.out _ hH.out.below).mono ?_)
          rintro e v9 ⟨rfl, hb9⟩
          refine hK.out _ _ (hH.out.step hb9) ?_
          (try have FB := Lib.hid (FB.out.below hb9 FB.out.lt))
          clear hH hK hb9 K
          intro hH
          try simp only [Act.put, List.setIfInBounds_toArray, List.set_cons_zero, List.set_cons_succ]
          iterate 3
            refine tree_take (v := ?_) rfl (by rfl) ?_ ?_
            rotate_left
            · intro w2 hSw
              have V0 := hSw.get (.tail _ (.head _))
              have y0 := V0.cell (j := 0) rfl
              have y1 := V0.cell (j := 1) rfl
              have y2 := V0.cell (j := 2) rfl
              clear V0
              clear hSw
              go_simp
              try with_reducible rfl
            try simp only [Act.put, List.setIfInBounds_toArray, List.set_cons_zero, List.set_cons_succ]
          refine tree_node ?_
          refine tree_move rfl (by rfl) (fun K hK => ?_) ?_
          · go_simp
            skip
            refine hK.out _ _ (hH.out.alloc _) ?_
            have FB := held_new hH
            have GB := held_lt hH
            clear hH hK K
            intro hH
            try simp only [Act.put, List.setIfInBounds_toArray, List.set_cons_zero, List.set_cons_succ]
            refine tree_node ?_
            refine tree_move rfl (by rfl) (fun K hK => ?_) ?_
            · refine wp_store_row 63 _ _ rfl _ 63 [.string ⟨UU.host.toArray⟩, .int .i64 UU.port, .string ⟨UU.path.toArray⟩] zeroC rfl rfl FB.out rfl (by kernel_rfl) uri_one ?_
              intro v11 hq11 ho11
              refine hK.out _ _ (hH.out.only ho11 GB.out) ?_
              have HQ := Lib.hid hq11
              clear hH hK K hq11 ho11
              intro hH
              try simp only [Act.put]
              iterate 1
                refine tree_take (v := ?_) rfl (by rfl) ?_ ?_
                rotate_left
                · intro w2 hSw
                  have V0 := hSw.get (.tail _ (.head _))
                  have y0 := V0.cell (j := 0) rfl
                  have y1 := V0.cell (j := 1) rfl
                  have y2 := V0.cell (j := 2) rfl
                  clear V0
                  clear hSw
                  go_simp
                  try with_reducible rfl
                try simp only [Act.put, List.setIfInBounds_toArray, List.set_cons_zero, List.set_cons_succ]
              refine tree_done ?_
              go_wp2_with fail
              go_meet
              exact ⟨_, rfl, rfl, hH.out.with_ HQ.out⟩
            exact tree_stop
          exact tree_stop
        refine tree_move rfl (by rfl) (fun K hK => ?_) ?_
        · go_simp
          skip
          refine hK.out _ _ (hH.out.alloc _) ?_
          have FB := held_new hH
          have GB := held_lt hH
          clear hH hK K
          intro hH
          try simp only [Act.put, List.setIfInBounds_toArray, List.set_cons_zero, List.set_cons_succ]
          refine tree_node ?_
          refine tree_move rfl (by rfl) (fun K hK => ?_) ?_
          · go_simp
            (with_reducible refine (R2.out _ hH.out.below).mono ?_)
            rintro e v9 ⟨rfl, hb9⟩
            refine hK.out _ _ (hH.out.step hb9) ?_
            (try have FB := Lib.hid (FB.out.below hb9 FB.out.lt))
            clear hH hK hb9 K
            intro hH
            try simp only [Act.put, List.setIfInBounds_toArray, List.set_cons_zero, List.set_cons_succ]
            iterate 3
              refine tree_take (v := ?_) rfl (by rfl) ?_ ?_
              rotate_left
              · intro w2 hSw
                have V0 := hSw.get (.tail _ (.head _))
                have y0 := V0.cell (j := 0) rfl
                have y1 := V0.cell (j := 1) rfl
                have y2 := V0.cell (j := 2) rfl
                clear V0
                clear hSw
                go_simp
                try with_reducible rfl
              try simp only [Act.put, List.setIfInBounds_toArray, List.set_cons_zero, List.set_cons_succ]
            refine tree_node ?_
            refine tree_move rfl (by rfl) (fun K hK => ?_) ?_
            · refine wp_store_row 63 _ _ rfl _ 63 [.string ⟨UU.host.toArray⟩, .int .i64 UU.port, .string ⟨UU.path.toArray⟩] zeroC rfl rfl FB.out rfl (by kernel_rfl) uri_one ?_
              intro v11 hq11 ho11
              refine hK.out _ _ (hH.out.only ho11 GB.out) ?_
              have HQ := Lib.hid hq11
              clear hH hK K hq11 ho11
              intro hH
              try simp only [Act.put]
              iterate 1
                refine tree_take (v := ?_) rfl (by rfl) ?_ ?_
                rotate_left
                · intro w2 hSw
                  have V0 := hSw.get (.tail _ (.head _))
                  have y0 := V0.cell (j := 0) rfl
                  have y1 := V0.cell (j := 1) rfl
                  have y2 := V0.cell (j := 2) rfl
                  clear V0
                  clear hSw
                  go_simp
                  try with_reducible rfl
                try simp only [Act.put, List.setIfInBounds_toArray, List.set_cons_zero, List.set_cons_succ]
              refine tree_done ?_
              go_wp2_with fail
              go_meet
              exact ⟨_, rfl, rfl, hH.out.with_ HQ.out⟩
            exact tree_stop
          exact tree_stop
        exact tree_stop
      refine tree_move rfl (by rfl) (fun K hK => ?_) ?_
      · go_simp
        skip
        refine hK.out _ _ (hH.out.alloc _) ?_
        have FB := held_new hH
        have GB := held_lt hH
        clear hH hK K
        intro hH
        try simp only [Act.put, List.setIfInBounds_toArray, List.set_cons_zero, List.set_cons_succ]
        refine tree_node ?_
        refine tree_move rfl (by rfl) (fun K hK => ?_) ?_
        · go_simp
          (with_reducible refine (P1.out _).mono ?_)
          rintro e v9 ⟨rfl, hb9⟩
          refine hK.out _ _ (hH.out.step hb9) ?_
          (try have FB := Lib.hid (FB.out.below hb9 FB.out.lt))
          clear hH hK hb9 K
          intro hH
          try simp only [Act.put, List.setIfInBounds_toArray, List.set_cons_zero, List.set_cons_succ]
          refine tree_node ?_
          refine tree_move rfl (by rfl) (fun K hK => ?_) ?_
          · go_simp
            (with_reducible refine (R2.out _ hH.out.below).mono ?_)
            rintro e v9 ⟨rfl, hb9⟩
            refine hK.out _ _ (hH.out.step hb9) ?_
            (try have FB := Lib.hid (FB.out.below hb9 FB.out.lt))
            clear hH hK hb9 K
            intro hH
            try simp only [Act.put, List.setIfInBounds_toArray, List.set_cons_zero, List.set_cons_succ]
            iterate 3
              refine tree_take (v := ?_) rfl (by rfl) ?_ ?_
              rotate_left
              · intro w2 hSw
                have V0 := hSw.get (.tail _ (.head _))
                have y0 := V0.cell (j := 0) rfl
                have y1 := V0.cell (j := 1) rfl
                have y2 := V0.cell (j := 2) rfl
                clear V0
                clear hSw
                go_simp
                try with_reducible rfl
              try simp only [Act.put, List.setIfInBounds_toArray, List.set_cons_zero, List.set_cons_succ]
            refine tree_node ?_
            refine tree_move rfl (by rfl) (fun K hK => ?_) ?_
            · refine wp_store_row 63 _ _ rfl _ 63 [.string ⟨UU.host.toArray⟩, .int .i64 UU.port, .string ⟨UU.path.toArray⟩] zeroC rfl rfl FB.out rfl (by kernel_rfl) uri_one ?_
              intro v11 hq11 ho11
              refine hK.out _ _ (hH.out.only ho11 GB.out) ?_
              have HQ := Lib.hid hq11
              clear hH hK K hq11 ho11
              intro hH
              try simp only [Act.put]
              iterate 1
                refine tree_take (v := ?_) rfl (by rfl) ?_ ?_
                rotate_left
                · intro w2 hSw
                  have V0 := hSw.get (.tail _ (.head _))
                  have y0 := V0.cell (j := 0) rfl
                  have y1 := V0.cell (j := 1) rfl
                  have y2 := V0.cell (j := 2) rfl
                  clear V0
                  clear hSw
                  go_simp
                  try with_reducible rfl
                try simp only [Act.put, List.setIfInBounds_toArray, List.set_cons_zero, List.set_cons_succ]
              refine tree_done ?_
              go_wp2_with fail
              go_meet
              exact ⟨_, rfl, rfl, hH.out.with_ HQ.out⟩
            exact tree_stop
          exact tree_stop
        exact tree_stop
      exact tree_stop
    case rest =>
      obtain ⟨g9, rfl, rfl, hh9⟩ := hcut
      have H9 := Lib.hid hh9
      clear hh9 H7 P1 R2
      have V0 := H9.out.get (.tail _ (.tail _ (.head _))); have y0 := V0.cell (j := 0) rfl; have y1 := V0.cell (j := 1) rfl; have y2 := V0.cell (j := 2) rfl; have y9 := V0.lt; clear V0
      obtain ⟨g11, hg11⟩ : ∃ g, wc.heap.size = g := ⟨_, rfl⟩; obtain ⟨v18, hv18⟩ : ∃ V, wc.alloc (.cells zeroC.toArray 63) = V := ⟨_, rfl⟩; have Z18 : Hid (RowAt v18 g11 63 zeroC) := Lib.hid (by rw [← hv18, ← hg11]; exact RowAt.new wc _ _); have N18 : Hid (Res g11 wc v18) := Lib.hid (by rw [← hv18, ← hg11]; exact Res.start wc); rw [show zeroC.toArray = #[.string ⟨#[]⟩, .int .i64 0, .string ⟨#[]⟩] from rfl] at hv18
      have H18 := Lib.hid (H9.out)
      have G18 : Hid ((∀ x ∈ ([(g9, [.string ⟨UU.host.toArray⟩, .int .i64 UU.port, .string ⟨UU.path.toArray⟩]), (g7, [.string ⟨UU.host.toArray⟩, .int .i64 UU.port, .string ⟨UU.path.toArray⟩]), (g5, [.string ⟨UU.host.toArray⟩, .int .i64 UU.port, .string ⟨UU.path.toArray⟩])] : List (Nat × List Value)), x.1 < g11) ∧ w.heap.size ≤ g11) := Lib.hid (by rw [← hg11]; exact (held_lt H9).out)
      go_upto_region 9 with (refine wpList_store_row rfl 63 _ _ rfl g11 63 [.string ⟨UU.host.toArray⟩, .int .i64 UU.port, .string ⟨UU.path.toArray⟩] zeroC rfl rfl Z18.out rfl (by kernel_rfl) uri_one ?_; intro w19 hq19 ho19; have H19 := Lib.hid (H18.out.add (by rw [hg11]; exact (N18.out.stored ho19 hq19 rfl).below) hq19); clear Z18 N18 H18 ho19 hq19 hg11 hv18)
      clear y0 y1 y2 y9
      have V0 := H19.out.get (.head _)
      have e2 := V0.cell (j := 2) rfl
      have f2 := V0.frozen (j := 2) (by show 2 < 3; omega)
      have e9 := V0.lt
      clear V0
      have H20 : Hid (Held w (w19.setCell ⟨g11, 2, none⟩ (.string ⟨#[47, 122, 122, 57, 47, 121, 63, 122]⟩)) ((g11, [.string ⟨UU.host.toArray⟩, .int .i64 UU.port, .string ⟨#[47, 122, 122, 57, 47, 121, 63, 122]⟩]) :: [(g9, [.string ⟨UU.host.toArray⟩, .int .i64 UU.port, .string ⟨UU.path.toArray⟩]), (g7, [.string ⟨UU.host.toArray⟩, .int .i64 UU.port, .string ⟨UU.path.toArray⟩]), (g5, [.string ⟨UU.host.toArray⟩, .int .i64 UU.port, .string ⟨UU.path.toArray⟩])])) := Lib.hid (H19.out.set G18.out (by show 2 < 3; omega))
      go_upto_region 10 with fail
      obtain ⟨w20, hw20⟩ : ∃ W, w19.setCell ⟨g11, 2, none⟩ (.string ⟨#[47, 122, 122, 57, 47, 121, 63, 122]⟩) = W := ⟨_, rfl⟩
      rw [hw20] at H20 ⊢
      clear hw20 e2 f2 e9 H19 G18 H9
      obtain ⟨QB, hQB⟩ : ∃ B : ByteArray, (⟨UU.path.toArray⟩ : ByteArray) = B := ⟨_, rfl⟩
      have hQBl : QB.data.toList = UU.path := by rw [← hQB]
      rw [hQB] at H20 R3 R4 EQ hsQ ⊢
      have V0 := H20.out.get (.tail _ (.tail _ (.tail _ (.head _)))); have y0 := V0.cell (j := 0) rfl; have y1 := V0.cell (j := 1) rfl; have y2 := V0.cell (j := 2) rfl; have y9 := V0.lt; clear V0
      have V0 := H20.out.get (.tail _ (.tail _ (.head _))); have x0 := V0.cell (j := 0) rfl; have x1 := V0.cell (j := 1) rfl; have x2 := V0.cell (j := 2) rfl; have x9 := V0.lt; clear V0
      have V0 := H20.out.get (.tail _ (.head _)); have z0 := V0.cell (j := 0) rfl; have z1 := V0.cell (j := 1) rfl; have z2 := V0.cell (j := 2) rfl; have z9 := V0.lt; clear V0
      have b2 : UU.path[1]? = some 47 → ∃ h : 1 < QB.size, QB[1] = 47 := by
        intro h
        rw [← hQBl] at h
        have h1 : 1 < QB.size := by
          rw [← data_len]
          exact (List.getElem?_eq_some_iff.1 h).1
        exact ⟨h1, by rw [get_data QB 1 h1] at h; exact Option.some.inj h⟩
      by_cases hp47 : UU.path[1]? = some 47
      · obtain ⟨hq1, hq2⟩ := b2 hp47
        have q1I : (1 : Int) < (QB.size : Int) := by omega
        have e47 : (((47 : UInt8).toNat : Int) == 47) = true := by decide
        clear b2 hp47 hQBl hQB hsQ
        go_upto_region 11 with fail
        refine wp_region_seq ?_
        iterate 3
          refine seq_take (v := ?_) (wanted_un rfl) ?_ ?_
          rotate_left
          · go_simp
            try with_reducible rfl
          try simp only [Act.put, List.setIfInBounds_toArray, List.set_cons_zero, List.set_cons_succ]
        iterate 3
          refine seq_take (v := ?_) (wanted_yes rfl rfl rfl rfl) ?_ ?_
          rotate_left
          · go_simp
            try with_reducible rfl
          try simp only [Act.put, List.setIfInBounds_toArray, List.set_cons_zero, List.set_cons_succ]
        iterate 2
          refine seq_take (v := ?_) (wanted_un rfl) ?_ ?_
          rotate_left
          · go_simp
            try with_reducible rfl
          try simp only [Act.put, List.setIfInBounds_toArray, List.set_cons_zero, List.set_cons_succ]
        iterate 2
          refine seq_take (v := ?_) (wanted_yes rfl rfl rfl rfl) ?_ ?_
          rotate_left
          · go_simp
            try with_reducible rfl
          try simp only [Act.put, List.setIfInBounds_toArray, List.set_cons_zero, List.set_cons_succ]
        iterate 2
          refine seq_take (v := ?_) (wanted_un rfl) ?_ ?_
          rotate_left
          · go_simp
            try with_reducible rfl
          try simp only [Act.put, List.setIfInBounds_toArray, List.set_cons_zero, List.set_cons_succ]
        iterate 3
          refine seq_take (v := ?_) (wanted_yes rfl rfl rfl rfl) ?_ ?_
          rotate_left
          · go_simp
            try with_reducible rfl
          try simp only [Act.put, List.setIfInBounds_toArray, List.set_cons_zero, List.set_cons_succ]
        iterate 2
          refine seq_take (v := ?_) (wanted_un rfl) ?_ ?_
          rotate_left
          · go_simp
            try with_reducible rfl
          try simp only [Act.put, List.setIfInBounds_toArray, List.set_cons_zero, List.set_cons_succ]
        refine seq_done ?_
        go_wp2_with fail
        go_ret
        exact ⟨rfl, H20.out.below⟩
      · have R3b := H3P.out hp47
        rw [R3b] at R3
        simp only [uriC] at R3
        rw [hQB] at R3
        replace R3 := Lib.hid R3
        go_cut [61] from 52 to 61 (fun s61 wx => s61 = .bool false ∧ wx = w20)
        case first =>
          by_cases hq1 : 1 < QB.size
          · have q1I : (1 : Int) < (QB.size : Int) := by omega
            obtain ⟨c, hc⟩ : ∃ c, QB[1] = c := ⟨_, rfl⟩
            have h47 : c ≠ 47 := by
              rintro rfl
              exact hp47 (by rw [← hQBl, get_data QB 1 hq1, hc])
            have e47 : ((c.toNat : Int) == 47) = false := by rw [byteLit c 47 47 rfl, beq_eq_false_iff_ne]; intro h; exact h47 (UInt8.toNat_inj.1 h)
            clear h47 hp47 b2 hQBl hQB R3b
            go_wp2_with fail
            go_meet
            exact ⟨rfl, rfl⟩
          · have q1I : ¬ ((1 : Int) < (QB.size : Int)) := by omega
            clear hp47 b2 hQBl hQB R3b
            go_wp2_with fail
            go_meet
            exact ⟨rfl, rfl⟩
        case rest =>
          obtain ⟨rfl, hwc⟩ := hcut
          subst hwc
          clear hp47 b2 hQBl hQB R3b x0 x1 x2 x9 z0 z1 z2 z9 y0 y1 y2 y9
          have V0 := H20.out.get (.tail _ (.tail _ (.tail _ (.head _)))); have y0 := V0.cell (j := 0) rfl; have y1 := V0.cell (j := 1) rfl; have y2 := V0.cell (j := 2) rfl; have y9 := V0.lt; clear V0
          have V0 := H20.out.get (.head _); have z0 := V0.cell (j := 0) rfl; have z1 := V0.cell (j := 1) rfl; have z2 := V0.cell (j := 2) rfl; have z9 := V0.lt; clear V0
          go_upto_region 13 with (first
            | (go_at_call 39; refine (R3.out _ H20.out.below).mono ?_; rintro e w21 ⟨rfl, hb21⟩; have H21 := Lib.hid (H20.out.step hb21); clear hb21 y0 y1 y2 y9 z0 z1 z2 z9; obtain ⟨g12, hg12⟩ : ∃ g, w21.heap.size = g := ⟨_, rfl⟩; obtain ⟨v21, hv21⟩ : ∃ V, w21.alloc (.cells zeroC.toArray 63) = V := ⟨_, rfl⟩; have Z21 : Hid (RowAt v21 g12 63 zeroC) := Lib.hid (by rw [← hv21, ← hg12]; exact RowAt.new w21 _ _); have N21 : Hid (Res g12 w21 v21) := Lib.hid (by rw [← hv21, ← hg12]; exact Res.start w21); rw [show zeroC.toArray = #[.string ⟨#[]⟩, .int .i64 0, .string ⟨#[]⟩] from rfl] at hv21)
            | (refine wpList_store_row rfl 63 _ _ rfl g12 63 [.string ⟨UU.host.toArray⟩, .int .i64 UU.port, .string QB] zeroC rfl rfl Z21.out rfl (by kernel_rfl) uri_one ?_; intro w22 hq22 ho22; have H22 := Lib.hid (H21.out.add (by rw [hg12]; exact (N21.out.stored ho22 hq22 rfl).below) hq22); clear Z21 N21 H21 ho22 hq22 hg12 hv21))
          clear R3
          go_upto_region 15 with (first
            | (go_at_call 37; refine (PT.out _ H22.out.below).mono ?_; rintro e w23 ⟨rfl, hb23⟩; have H23 := Lib.hid (H22.out.step hb23); clear hb23; obtain ⟨g14, hg14⟩ : ∃ g, w23.heap.size = g := ⟨_, rfl⟩; obtain ⟨v23, hv23⟩ : ∃ V, w23.alloc (.cells zeroC.toArray 63) = V := ⟨_, rfl⟩; have Z23 : Hid (RowAt v23 g14 63 zeroC) := Lib.hid (by rw [← hv23, ← hg14]; exact RowAt.new w23 _ _); have N23 : Hid (Res g14 w23 v23) := Lib.hid (by rw [← hv23, ← hg14]; exact Res.start w23); rw [show zeroC.toArray = #[.string ⟨#[]⟩, .int .i64 0, .string ⟨#[]⟩] from rfl] at hv23)
            | (refine wpList_store_row rfl 63 _ _ rfl g14 63 [.string ⟨DU.host.toArray⟩, .int .i64 DU.port, .string ⟨DU.path.toArray⟩] zeroC rfl rfl Z23.out rfl (by kernel_rfl) uri_one ?_; intro w24 hq24 ho24; have H24 := Lib.hid (H23.out.add (by rw [hg14]; exact (N23.out.stored ho24 hq24 rfl).below) hq24); clear Z23 N23 H23 ho24 hq24 hg14 hv23; have V0 := H24.out.get (.tail _ (.tail _ (.tail _ (.tail _ (.tail _ (.head _)))))); have y0 := V0.cell (j := 0) rfl; have y1 := V0.cell (j := 1) rfl; have y2 := V0.cell (j := 2) rfl; have y9 := V0.lt; clear V0)
            | (go_at_call 39; refine (R4.out _ H24.out.below).mono ?_; rintro e w25 ⟨rfl, hb25⟩; have H25 := Lib.hid (H24.out.step hb25); clear hb25 y0 y1 y2 y9; obtain ⟨g16, hg16⟩ : ∃ g, w25.heap.size = g := ⟨_, rfl⟩; obtain ⟨v25, hv25⟩ : ∃ V, w25.alloc (.cells zeroC.toArray 63) = V := ⟨_, rfl⟩; have Z25 : Hid (RowAt v25 g16 63 zeroC) := Lib.hid (by rw [← hv25, ← hg16]; exact RowAt.new w25 _ _); have N25 : Hid (Res g16 w25 v25) := Lib.hid (by rw [← hv25, ← hg16]; exact Res.start w25); rw [show zeroC.toArray = #[.string ⟨#[]⟩, .int .i64 0, .string ⟨#[]⟩] from rfl] at hv25)
            | (refine wpList_store_row rfl 63 _ _ rfl g16 63 [.string ⟨EU.host.toArray⟩, .int .i64 EU.port, .string ⟨EU.path.toArray⟩] zeroC rfl rfl Z25.out rfl (by kernel_rfl) uri_one ?_; intro w26 hq26 ho26; have H26 := Lib.hid (H25.out.add (by rw [hg16]; exact (N25.out.stored ho26 hq26 rfl).below) hq26); clear Z25 N25 H25 ho26 hq26 hg16 hv25))
          have V0 := H26.out.get (.tail _ (.tail _ (.tail _ (.tail _ (.tail _ (.tail _ (.head _))))))); have y0 := V0.cell (j := 0) rfl; have y1 := V0.cell (j := 1) rfl; have y2 := V0.cell (j := 2) rfl; have y9 := V0.lt; clear V0
          have V0 := H26.out.get (.tail _ (.tail _ (.tail _ (.tail _ (.tail _ (.head _)))))); have x0 := V0.cell (j := 0) rfl; have x1 := V0.cell (j := 1) rfl; have x2 := V0.cell (j := 2) rfl; have x9 := V0.lt; clear V0
          have V0 := H26.out.get (.tail _ (.tail _ (.tail _ (.tail _ (.head _))))); have z0 := V0.cell (j := 0) rfl; have z1 := V0.cell (j := 1) rfl; have z2 := V0.cell (j := 2) rfl; have z9 := V0.lt; clear V0
          have V0 := H26.out.get (.tail _ (.tail _ (.head _))); have a0 := V0.cell (j := 0) rfl; have a1 := V0.cell (j := 1) rfl; have a2 := V0.cell (j := 2) rfl; have a9 := V0.lt; clear V0
          have V0 := H26.out.get (.tail _ (.head _)); have b0 := V0.cell (j := 0) rfl; have b1 := V0.cell (j := 1) rfl; have b2 := V0.cell (j := 2) rfl; have b9 := V0.lt; clear V0
          have V0 := H26.out.get (.head _); have c0 := V0.cell (j := 0) rfl; have c1 := V0.cell (j := 1) rfl; have c2 := V0.cell (j := 2) rfl; have c9 := V0.lt; clear V0
          by_cases hdz : DE = 0
          · subst hdz
            obtain ⟨rfl, rfl⟩ := HDE.out rfl
            refine wp_region_seq ?_
            iterate 3
              refine seq_take (v := ?_) (wanted_un rfl) ?_ ?_
              rotate_left
              · go_simp
                try with_reducible rfl
              try simp only [Act.put, List.setIfInBounds_toArray, List.set_cons_zero, List.set_cons_succ]
            iterate 3
              refine seq_take (v := ?_) (wanted_yes rfl rfl rfl rfl) ?_ ?_
              rotate_left
              · go_simp
                try with_reducible rfl
              try simp only [Act.put, List.setIfInBounds_toArray, List.set_cons_zero, List.set_cons_succ]
            iterate 2
              refine seq_take (v := ?_) (wanted_un rfl) ?_ ?_
              rotate_left
              · go_simp
                try with_reducible rfl
              try simp only [Act.put, List.setIfInBounds_toArray, List.set_cons_zero, List.set_cons_succ]
            iterate 2
              refine seq_take (v := ?_) (wanted_yes rfl rfl rfl rfl) ?_ ?_
              rotate_left
              · go_simp
                try with_reducible rfl
              try simp only [Act.put, List.setIfInBounds_toArray, List.set_cons_zero, List.set_cons_succ]
            iterate 2
              refine seq_take (v := ?_) (wanted_un rfl) ?_ ?_
              rotate_left
              · go_simp
                try with_reducible rfl
              try simp only [Act.put, List.setIfInBounds_toArray, List.set_cons_zero, List.set_cons_succ]
            iterate 3
              refine seq_take (v := ?_) (wanted_yes rfl rfl rfl rfl) ?_ ?_
              rotate_left
              · go_simp
                try with_reducible rfl
              try simp only [Act.put, List.setIfInBounds_toArray, List.set_cons_zero, List.set_cons_succ]
            iterate 2
              refine seq_take (v := ?_) (wanted_un rfl) ?_ ?_
              rotate_left
              · go_simp
                try with_reducible rfl
              try simp only [Act.put, List.setIfInBounds_toArray, List.set_cons_zero, List.set_cons_succ]
            iterate 2
              refine seq_take (v := ?_) (wanted_yes rfl rfl rfl rfl) ?_ ?_
              rotate_left
              · go_simp
                try with_reducible rfl
              try simp only [Act.put, List.setIfInBounds_toArray, List.set_cons_zero, List.set_cons_succ]
            iterate 2
              refine seq_take (v := ?_) (wanted_un rfl) ?_ ?_
              rotate_left
              · go_simp
                try with_reducible rfl
              try simp only [Act.put, List.setIfInBounds_toArray, List.set_cons_zero, List.set_cons_succ]
            iterate 3
              refine seq_take (v := ?_) (wanted_yes rfl rfl rfl rfl) ?_ ?_
              rotate_left
              · go_simp
                try with_reducible rfl
              try simp only [Act.put, List.setIfInBounds_toArray, List.set_cons_zero, List.set_cons_succ]
            iterate 2
              refine seq_take (v := ?_) (wanted_un rfl) ?_ ?_
              rotate_left
              · go_simp
                try with_reducible rfl
              try simp only [Act.put, List.setIfInBounds_toArray, List.set_cons_zero, List.set_cons_succ]
            iterate 11
              refine seq_take (v := ?_) (wanted_yes rfl rfl rfl rfl) ?_ ?_
              rotate_left
              · go_simp
                try with_reducible rfl
              try simp only [Act.put, List.setIfInBounds_toArray, List.set_cons_zero, List.set_cons_succ]
            iterate 2
              refine seq_take (v := ?_) (wanted_un rfl) ?_ ?_
              rotate_left
              · go_simp
                try with_reducible rfl
              try simp only [Act.put, List.setIfInBounds_toArray, List.set_cons_zero, List.set_cons_succ]
            refine seq_done ?_
            go_wp2_with fail
            go_ret
            exact ⟨rfl, H26.out.below⟩
          · have e0 : (DE == 0) = false := by rw [beq_eq_false_iff_ne]; exact hdz
            have e1 : (DE != 0) = true := by rw [bne, e0]; rfl
            refine wp_region_seq ?_
            iterate 3
              refine seq_take (v := ?_) (wanted_un rfl) ?_ ?_
              rotate_left
              · go_simp
                try with_reducible rfl
              try simp only [Act.put, List.setIfInBounds_toArray, List.set_cons_zero, List.set_cons_succ]
            iterate 3
              refine seq_take (v := ?_) (wanted_yes rfl rfl rfl rfl) ?_ ?_
              rotate_left
              · go_simp
                try with_reducible rfl
              try simp only [Act.put, List.setIfInBounds_toArray, List.set_cons_zero, List.set_cons_succ]
            iterate 2
              refine seq_take (v := ?_) (wanted_un rfl) ?_ ?_
              rotate_left
              · go_simp
                try with_reducible rfl
              try simp only [Act.put, List.setIfInBounds_toArray, List.set_cons_zero, List.set_cons_succ]
            iterate 2
              refine seq_take (v := ?_) (wanted_yes rfl rfl rfl rfl) ?_ ?_
              rotate_left
              · go_simp
                try with_reducible rfl
              try simp only [Act.put, List.setIfInBounds_toArray, List.set_cons_zero, List.set_cons_succ]
            iterate 2
              refine seq_take (v := ?_) (wanted_un rfl) ?_ ?_
              rotate_left
              · go_simp
                try with_reducible rfl
              try simp only [Act.put, List.setIfInBounds_toArray, List.set_cons_zero, List.set_cons_succ]
            iterate 3
              refine seq_take (v := ?_) (wanted_yes rfl rfl rfl rfl) ?_ ?_
              rotate_left
              · go_simp
                try with_reducible rfl
              try simp only [Act.put, List.setIfInBounds_toArray, List.set_cons_zero, List.set_cons_succ]
            iterate 2
              refine seq_take (v := ?_) (wanted_un rfl) ?_ ?_
              rotate_left
              · go_simp
                try with_reducible rfl
              try simp only [Act.put, List.setIfInBounds_toArray, List.set_cons_zero, List.set_cons_succ]
            iterate 2
              refine seq_take (v := ?_) (wanted_yes rfl rfl rfl rfl) ?_ ?_
              rotate_left
              · go_simp
                try with_reducible rfl
              try simp only [Act.put, List.setIfInBounds_toArray, List.set_cons_zero, List.set_cons_succ]
            iterate 2
              refine seq_take (v := ?_) (wanted_un rfl) ?_ ?_
              rotate_left
              · go_simp
                try with_reducible rfl
              try simp only [Act.put, List.setIfInBounds_toArray, List.set_cons_zero, List.set_cons_succ]
            iterate 3
              refine seq_take (v := ?_) (wanted_yes rfl rfl rfl rfl) ?_ ?_
              rotate_left
              · go_simp
                try with_reducible rfl
              try simp only [Act.put, List.setIfInBounds_toArray, List.set_cons_zero, List.set_cons_succ]
            iterate 2
              refine seq_take (v := ?_) (wanted_un rfl) ?_ ?_
              rotate_left
              · go_simp
                try with_reducible rfl
              try simp only [Act.put, List.setIfInBounds_toArray, List.set_cons_zero, List.set_cons_succ]
            iterate 3
              refine seq_take (v := ?_) (wanted_yes rfl rfl rfl rfl) ?_ ?_
              rotate_left
              · go_simp
                try with_reducible rfl
              try simp only [Act.put, List.setIfInBounds_toArray, List.set_cons_zero, List.set_cons_succ]
            iterate 3
              refine seq_skip (wanted_no rfl rfl rfl rfl) ?_
              try simp only [Act.put, List.setIfInBounds_toArray, List.set_cons_zero, List.set_cons_succ]
            iterate 3
              refine seq_skip (wanted_und rfl rfl rfl rfl) ?_
              try simp only [Act.put, List.setIfInBounds_toArray, List.set_cons_zero, List.set_cons_succ]
            iterate 1
              refine seq_skip (wanted_no rfl rfl rfl rfl) ?_
              try simp only [Act.put, List.setIfInBounds_toArray, List.set_cons_zero, List.set_cons_succ]
            iterate 1
              refine seq_take (v := ?_) (wanted_yes rfl rfl rfl rfl) ?_ ?_
              rotate_left
              · go_simp
                try with_reducible rfl
              try simp only [Act.put, List.setIfInBounds_toArray, List.set_cons_zero, List.set_cons_succ]
            iterate 2
              refine seq_take (v := ?_) (wanted_un rfl) ?_ ?_
              rotate_left
              · go_simp
                try with_reducible rfl
              try simp only [Act.put, List.setIfInBounds_toArray, List.set_cons_zero, List.set_cons_succ]
            refine seq_done ?_
            go_wp2_with fail
            go_ret
            exact ⟨rfl, H26.out.below⟩
  · have e0 : (UE == 0) = false := by rw [beq_eq_false_iff_ne]; exact hz
    have e1 : (UE != 0) = true := by rw [bne, e0]; rfl
    clear hz
    go_wp2_with fail
    go_ret
    exact ⟨rfl, H4.out.below⟩
end Go.Proofs.YtaddefjkjlkjnaaDoor
