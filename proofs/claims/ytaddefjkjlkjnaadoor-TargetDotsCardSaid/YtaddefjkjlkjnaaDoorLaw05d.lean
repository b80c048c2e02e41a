/- Layer 5's laws: rows held; TargetBack, walked. Condition: the world's shape. -/
import Derived.Test.YtaddefjkjlkjnaaDoorLaw05a
import Derived.Test.YtaddefjkjlkjnaaDoorTar19
import Derived.Test.YtaddefjkjlkjnaaDoorTgt3
namespace Go.Proofs.YtaddefjkjlkjnaaDoor
open Go.RowKit IH
set_option maxRecDepth 100000
/-- What is ahead of a world stands, and so do rows behind it. -/
def Held (w W : World) (L : List (Nat × List Value)) : Prop := Below w.heap.size w W ∧ ∀ x ∈ L, RowAt W x.1 63 x.2
theorem Held.below {w W : World} {L : List (Nat × List Value)} (h : Held w W L) : Below w.heap.size w W := h.1
theorem Held.get {w W : World} {L : List (Nat × List Value)} {g : Nat} {cs : List Value} (h : Held w W L) (hm : (g, cs) ∈ L) : RowAt W g 63 cs := h.2 _ hm
theorem Held.step {w W W' : World} {L : List (Nat × List Value)} (h : Held w W L) (hb : Below W.heap.size W W') : Held w W' L :=
  ⟨below_step h.1 hb, fun x hx => (h.2 x hx).below hb (h.2 x hx).lt⟩
theorem Held.add {w W W' : World} {L : List (Nat × List Value)} {g : Nat} {cs : List Value} (h : Held w W L) (hb : Below W.heap.size W W') (hr : RowAt W' g 63 cs) : Held w W' ((g, cs) :: L) := by
  refine ⟨below_step h.1 hb, fun x hx => ?_⟩
  rcases List.mem_cons.1 hx with rfl | hx
  · exact hr
  · exact (h.2 x hx).below hb (h.2 x hx).lt
theorem Held.start (w : World) : Held w w [] := ⟨Below.refl _ _, fun x hx => by cases hx⟩
theorem uri_same_eql (H : ByteArray) (n : Int) (Q : ByteArray) (w : World) : (binOp .eql 63 (.agg #[.string H, .int .i64 n, .string Q]) (.agg #[.string H, .int .i64 n, .string Q])).run Tryd.prog w = .ok (.bool true) w := by
  have := uri_eql H n Q H n Q w
  rwa [decide_eq_true ⟨rfl, rfl, rfl⟩] at this
theorem uri_same_neq (H : ByteArray) (n : Int) (Q : ByteArray) (w : World) : (binOp .neq 63 (.agg #[.string H, .int .i64 n, .string Q]) (.agg #[.string H, .int .i64 n, .string Q])).run Tryd.prog w = .ok (.bool false) w := by
  have h := uri_same_eql H n Q w
  rw [run_eql_struct] at h
  rw [run_neq_struct]
  generalize (Op.equalIn 10000 63 (.agg #[.string H, .int .i64 n, .string Q]) (.agg #[.string H, .int .i64 n, .string Q])).run Tryd.prog w = R at h ⊢
  cases R <;> simp_all [Result.andThen]
set_option maxHeartbeats 32000000 in
theorem tback_walk (w : World) (hsh : w.ShapedOpen Tryd.prog) (s : ByteArray) (_hs : s.size ≤ maxLen) (t : ByteArray) (_ht : t.size ≤ maxLen) :
    Calls Tryd.prog 13 #[.string s, .string t] w fun e w' => e = .returned (.bool true) ∧ Below w.heap.size w w' := by
  have AW := Lib.hid (fun (W : World) (hW : Below w.heap.size w W) => awake05_any W (shaped_below hsh hW))
  have H0 : Hid (Held w w []) := Lib.hid (Held.start w)
  by_cases hh0 : 4000 < s.size
  · have hI0 : (4000 : Int) < (s.size : Int) := by omega
    clear hsh
    go_enter Tryd.func13, Tryd.ntmps13
    go_wp2_with (first
      | (go_at_call 36; refine (AW.out _ H0.out.below).mono ?_; rintro e w1 ⟨rfl, hb1⟩; have H1 := Lib.hid (H0.out.step hb1); clear hb1)
      | (go_at_call 36; refine (AW.out _ H1.out.below).mono ?_; rintro e w2 ⟨rfl, hb2⟩; have H2 := Lib.hid (H1.out.step hb2); clear hb2))
    go_ret
    exact ⟨rfl, H2.out.below⟩
  by_cases hh1 : 300 < t.size
  · have hI0 : ¬ ((4000 : Int) < (s.size : Int)) := by omega
    have hI1 : (300 : Int) < (t.size : Int) := by omega
    clear hsh
    go_enter Tryd.func13, Tryd.ntmps13
    go_wp2_with (first
      | (go_at_call 36; refine (AW.out _ H0.out.below).mono ?_; rintro e w1 ⟨rfl, hb1⟩; have H1 := Lib.hid (H0.out.step hb1); clear hb1)
      | (go_at_call 36; refine (AW.out _ H1.out.below).mono ?_; rintro e w2 ⟨rfl, hb2⟩; have H2 := Lib.hid (H1.out.step hb2); clear hb2))
    go_ret
    exact ⟨rfl, H2.out.below⟩
  have hI0 : ¬ ((4000 : Int) < (s.size : Int)) := by omega
  have hI1 : ¬ ((300 : Int) < (t.size : Int)) := by omega
  have hsl : s.data.toList.length ≤ 4000 := by rw [data_len]; omega
  have htl : t.data.toList.length ≤ 300 := by rw [data_len]; omega
  have PA := fun (W : World) (hW : Below w.heap.size w W) => parse5_any s (by omega) W (shaped_below hsh hW)
  have PB := fun (W : World) (hW : Below w.heap.size w W) => of5_any s t (by omega) (by omega) W (shaped_below hsh hW)
  obtain ⟨J, hJ⟩ : ∃ J, parseU s.data.toList = J := ⟨_, rfl⟩
  obtain ⟨K, hK⟩ : ∃ K, ofU s.data.toList t.data.toList = K := ⟨_, rfl⟩
  rw [hJ] at PA
  rw [hK] at PB
  obtain ⟨UU, UE⟩ := J
  obtain ⟨VU, VE⟩ := K
  simp only [uriC] at PA PB
  have HJ := Lib.hid hJ
  have HK := Lib.hid hK
  have SH := Lib.hid (fun (W : World) (hW : Below w.heap.size w W) => shaped_below hsh hW)
  replace PA := Lib.hid PA
  replace PB := Lib.hid PB
  clear hsh hJ hK hh0 hh1
  go_enter Tryd.func13, Tryd.ntmps13
  go_upto_region 5 with (first
    | (go_at_call 36; refine (AW.out _ H0.out.below).mono ?_; rintro e w1 ⟨rfl, hb1⟩; have H1 := Lib.hid (H0.out.step hb1); clear hb1)
    | (go_at_call 37; refine (PA.out _ H1.out.below).mono ?_; rintro e w3 ⟨rfl, hb3⟩; have H3 := Lib.hid (H1.out.step hb3); clear hb3; obtain ⟨g5, hg5⟩ : ∃ g, w3.heap.size = g := ⟨_, rfl⟩; obtain ⟨v3, hv3⟩ : ∃ V, w3.alloc (.cells zeroC.toArray 63) = V := ⟨_, rfl⟩; have Z3 : Hid (RowAt v3 g5 63 zeroC) := Lib.hid (by rw [← hv3, ← hg5]; exact RowAt.new w3 _ _); have N3 : Hid (Res g5 w3 v3) := Lib.hid (by rw [← hv3, ← hg5]; exact Res.start w3); rw [show zeroC.toArray = #[.string ⟨#[]⟩, .int .i64 0, .string ⟨#[]⟩] from rfl] at hv3)
    | (refine wpList_store_row rfl 63 _ _ rfl g5 63 [.string ⟨UU.host.toArray⟩, .int .i64 UU.port, .string ⟨UU.path.toArray⟩] zeroC rfl rfl Z3.out rfl (by kernel_rfl) uri_one ?_; intro w4 hq4 ho4; have H4 := Lib.hid (H3.out.add (by rw [hg5]; exact (N3.out.stored ho4 hq4 rfl).below) hq4); clear Z3 N3 H3 ho4 hq4 hg5 hv3)
    | (go_at_call 42; refine (PB.out _ H4.out.below).mono ?_; rintro e w5 ⟨rfl, hb5⟩; have H5 := Lib.hid (H4.out.step hb5); clear hb5 H4; obtain ⟨g7, hg7⟩ : ∃ g, w5.heap.size = g := ⟨_, rfl⟩; obtain ⟨v5, hv5⟩ : ∃ V, w5.alloc (.cells zeroC.toArray 63) = V := ⟨_, rfl⟩; have Z5 : Hid (RowAt v5 g7 63 zeroC) := Lib.hid (by rw [← hv5, ← hg7]; exact RowAt.new w5 _ _); have N5 : Hid (Res g7 w5 v5) := Lib.hid (by rw [← hv5, ← hg7]; exact Res.start w5); rw [show zeroC.toArray = #[.string ⟨#[]⟩, .int .i64 0, .string ⟨#[]⟩] from rfl] at hv5)
    | (refine wpList_store_row rfl 63 _ _ rfl g7 63 [.string ⟨VU.host.toArray⟩, .int .i64 VU.port, .string ⟨VU.path.toArray⟩] zeroC rfl rfl Z5.out rfl (by kernel_rfl) uri_one ?_; intro w6 hq6 ho6; have H6 := Lib.hid (H5.out.add (by rw [hg7]; exact (N5.out.stored ho6 hq6 rfl).below) hq6); clear Z5 N5 H5 ho6 hq6 hg7 hv5))
  clear H0 H1
  go_upto_if 40 with fail
  go_cut [9, 10] from 41 to 60 (fun _ _ wx => Held w wx [(g7, [.string ⟨VU.host.toArray⟩, .int .i64 VU.port, .string ⟨VU.path.toArray⟩]), (g5, [.string ⟨UU.host.toArray⟩, .int .i64 UU.port, .string ⟨UU.path.toArray⟩])])
  case first =>
    by_cases hz : UE = 0
    · subst hz
      have hbk := back_parse hsl HJ.out
      have hrt := (rightU_iff UU).2 hbk
      obtain ⟨hn, hh, hp, _, _⟩ := parseU_normal HJ.out
      have hpo0 := hn.p0
      have hpo1 := hn.p1
      have hsH : (⟨UU.host.toArray⟩ : ByteArray).size ≤ 4000 := by rw [size_mk]; omega
      have hsQ : (⟨UU.path.toArray⟩ : ByteArray).size ≤ 4000 := by rw [size_mk]; omega
      have P1 := fun W => print5_any ⟨UU.host.toArray⟩ UU.port ⟨UU.path.toArray⟩ (by omega) (by omega) (by omega) (by omega) W
      have R1 := fun (W : World) (hW : Below w.heap.size w W) => right5_any ⟨UU.host.toArray⟩ UU.port ⟨UU.path.toArray⟩ (by omega) (by omega) (by omega) (by omega) W (SH.out W hW)
      rw [show (⟨(⟨UU.host.toArray⟩ : ByteArray).data.toList, UU.port, (⟨UU.path.toArray⟩ : ByteArray).data.toList⟩ : Uri) = UU from rfl] at P1 R1
      rw [hrt] at R1
      obtain ⟨T, hT⟩ : ∃ T : ByteArray, (⟨(printU UU).toArray⟩ : ByteArray) = T := ⟨_, rfl⟩
      rw [hT] at P1
      have hTl : T.data.toList = printU UU := by rw [← hT]
      have hTs : T.size ≤ 10000 := by rw [← data_len, hTl]; have := printU_length hpo0 hpo1; rw [size_mk] at hsH hsQ; omega
      have P2 := fun (W : World) (hW : Below w.heap.size w W) => parse5_any T (by omega) W (SH.out W hW)
      rw [hTl, hbk] at P2
      simp only [uriC] at P2
      have NQ := fun W => uri_same_neq ⟨UU.host.toArray⟩ UU.port ⟨UU.path.toArray⟩ W
      replace P1 := Lib.hid P1
      replace P2 := Lib.hid P2
      replace R1 := Lib.hid R1
      clear hbk hrt hn hh hp hpo0 hpo1 hsH hsQ hT hTl hTs hsl htl
      have V0 := H6.out.get (.tail _ (.head _)); have y0 := V0.cell (j := 0) rfl; have y1 := V0.cell (j := 1) rfl; have y2 := V0.cell (j := 2) rfl; have y9 := V0.lt; clear V0
      go_upto_region 9 with (first
        | (go_at_call 41; refine (P1.out _).mono ?_; rintro e w7 ⟨rfl, hb7⟩; have H7 := Lib.hid (H6.out.step hb7); clear hb7 y0 y1 y2 y9)
        | (go_at_call 37; refine (P2.out _ H7.out.below).mono ?_; rintro e w8 ⟨rfl, hb8⟩; have H8 := Lib.hid (H7.out.step hb8); clear hb8; obtain ⟨g9, hg9⟩ : ∃ g, w8.heap.size = g := ⟨_, rfl⟩; obtain ⟨v8, hv8⟩ : ∃ V, w8.alloc (.cells zeroC.toArray 63) = V := ⟨_, rfl⟩; have Z8 : Hid (RowAt v8 g9 63 zeroC) := Lib.hid (by rw [← hv8, ← hg9]; exact RowAt.new w8 _ _); have N8 : Hid (Res g9 w8 v8) := Lib.hid (by rw [← hv8, ← hg9]; exact Res.start w8); rw [show zeroC.toArray = #[.string ⟨#[]⟩, .int .i64 0, .string ⟨#[]⟩] from rfl] at hv8)
        | (refine wpList_store_row rfl 63 _ _ rfl g9 63 [.string ⟨UU.host.toArray⟩, .int .i64 UU.port, .string ⟨UU.path.toArray⟩] zeroC rfl rfl Z8.out rfl (by kernel_rfl) uri_one ?_; intro w10 hq10 ho10; have H10 := Lib.hid (H8.out.add (by rw [hg9]; exact (N8.out.stored ho10 hq10 rfl).below) hq10); clear Z8 N8 H8 ho10 hq10 hg9 hv8))
      have V0 := H10.out.get (.head _); have x0 := V0.cell (j := 0) rfl; have x1 := V0.cell (j := 1) rfl; have x2 := V0.cell (j := 2) rfl; have x9 := V0.lt; clear V0
      have V0 := H10.out.get (.tail _ (.tail _ (.head _))); have y0 := V0.cell (j := 0) rfl; have y1 := V0.cell (j := 1) rfl; have y2 := V0.cell (j := 2) rfl; have y9 := V0.lt; clear V0
      refine wp_region_seq ?_
      iterate 3
        refine seq_take (v := ?_) (wanted_un rfl) ?_ ?_
        rotate_left
        · go_simp
          try with_reducible rfl
        try simp only [Act.put, List.setIfInBounds_toArray, List.set_cons_zero, List.set_cons_succ]
      iterate 3
        refine seq_take (v := ?_) (wanted_yes rfl rfl rfl rfl) ?_ ?_
        rotate_left
        · go_simp
          try with_reducible rfl
        try simp only [Act.put, List.setIfInBounds_toArray, List.set_cons_zero, List.set_cons_succ]
      iterate 2
        refine seq_take (v := ?_) (wanted_un rfl) ?_ ?_
        rotate_left
        · go_simp
          try with_reducible rfl
        try simp only [Act.put, List.setIfInBounds_toArray, List.set_cons_zero, List.set_cons_succ]
      iterate 1
        refine seq_take (v := ?_) (wanted_yes rfl rfl rfl rfl) ?_ ?_
        rotate_left
        · go_simp
          try with_reducible rfl
        try simp only [Act.put, List.setIfInBounds_toArray, List.set_cons_zero, List.set_cons_succ]
      refine seq_move (wanted_yes rfl rfl rfl rfl) (fun K hK => ?_)
      go_simp
      (with_reducible refine (R1.out _ H10.out.below).mono ?_)
      rintro e w11 ⟨rfl, hb11⟩
      have H11 := Lib.hid (H10.out.step hb11)
      clear hb11 x0 x1 x2 x9 y0 y1 y2 y9
      refine hK.out _ _ ?_
      clear hK K
      try simp only [Act.put, List.setIfInBounds_toArray, List.set_cons_zero, List.set_cons_succ]
      iterate 1
        refine seq_take (v := ?_) (wanted_yes rfl rfl rfl rfl) ?_ ?_
        rotate_left
        · go_simp
          try with_reducible rfl
        try simp only [Act.put, List.setIfInBounds_toArray, List.set_cons_zero, List.set_cons_succ]
      iterate 1
        refine seq_take (v := ?_) (wanted_un rfl) ?_ ?_
        rotate_left
        · go_simp
          try with_reducible rfl
        try simp only [Act.put, List.setIfInBounds_toArray, List.set_cons_zero, List.set_cons_succ]
      refine seq_done ?_
      go_wp2_with fail
      go_meet
      exact ⟨H11.out.1, fun z hz => H11.out.2 z (.tail _ hz)⟩
    · have e0 : (UE == 0) = false := by rw [beq_eq_false_iff_ne]; exact hz
      clear hz
      go_wp2_with fail
      go_meet
      exact H6.out
  case rest =>
    have H12 := Lib.hid hcut
    clear hcut H6
    by_cases hz : VE = 0
    · subst hz
      obtain ⟨hbk, hne, h47⟩ := back_of hsl htl HK.out
      obtain ⟨hn, hlen⟩ := ofU_normal HK.out
      have hpo0 := hn.p0
      have hpo1 := hn.p1
      have hsH : (⟨VU.host.toArray⟩ : ByteArray).size ≤ 5000 := by rw [size_mk]; omega
      have hsQ : (⟨VU.path.toArray⟩ : ByteArray).size ≤ 5000 := by rw [size_mk]; omega
      have P1 := fun W => print5_any ⟨VU.host.toArray⟩ VU.port ⟨VU.path.toArray⟩ (by omega) (by omega) (by omega) (by omega) W
      rw [show (⟨(⟨VU.host.toArray⟩ : ByteArray).data.toList, VU.port, (⟨VU.path.toArray⟩ : ByteArray).data.toList⟩ : Uri) = VU from rfl] at P1
      obtain ⟨T, hT⟩ : ∃ T : ByteArray, (⟨(printU VU).toArray⟩ : ByteArray) = T := ⟨_, rfl⟩
      rw [hT] at P1
      have hTl : T.data.toList = printU VU := by rw [← hT]
      have hTs : T.size ≤ 20000 := by rw [← data_len, hTl]; have := printU_length hpo0 hpo1; rw [size_mk] at hsH hsQ; omega
      have P2 := fun (W : World) (hW : Below w.heap.size w W) => parse5_any T (by omega) W (SH.out W hW)
      rw [hTl, hbk] at P2
      have P3 := fun (W : World) (hW : Below w.heap.size w W) => of5_any ⟨VU.path.toArray⟩ t (by omega) (by omega) W (SH.out W hW)
      rw [show (⟨VU.path.toArray⟩ : ByteArray).data.toList = VU.path from rfl] at P3
      obtain ⟨X, hX⟩ : ∃ X, ofU VU.path t.data.toList = X := ⟨_, rfl⟩
      rw [hX] at P3 h47
      obtain ⟨XU, XE⟩ := X
      simp only [uriC] at P2 P3
      have EQ := fun W => uri_same_eql ⟨VU.host.toArray⟩ VU.port ⟨VU.path.toArray⟩ W
      have h0s : 0 < s.size := by rw [← data_len]; exact List.length_pos_iff.2 hne
      obtain ⟨c, hc⟩ : ∃ c, s[0] = c := ⟨_, rfl⟩
      have hd : s.data.toList.head? = some c := by rw [List.head?_eq_getElem?, get_data s 0 h0s, hc]
      have h0I : (0 : Int) < (s.size : Int) := by omega
      replace P1 := Lib.hid P1
      replace P2 := Lib.hid P2
      replace P3 := Lib.hid P3
      rw [hd] at h47
      have H47 := Lib.hid h47
      clear hbk hn hlen hpo0 hpo1 hsH hsQ hT hTl hTs hsl htl hne hX h47 hd
      have V0 := H12.out.get (.head _); have y0 := V0.cell (j := 0) rfl; have y1 := V0.cell (j := 1) rfl; have y2 := V0.cell (j := 2) rfl; have y9 := V0.lt; clear V0
      go_upto_region 15 with (first
        | (go_at_call 42; refine (P3.out _ H12.out.below).mono ?_; rintro e w13 ⟨rfl, hb13⟩; have H13 := Lib.hid (H12.out.step hb13); clear hb13 y0 y1 y2 y9; obtain ⟨g11, hg11⟩ : ∃ g, w13.heap.size = g := ⟨_, rfl⟩; obtain ⟨v13, hv13⟩ : ∃ V, w13.alloc (.cells zeroC.toArray 63) = V := ⟨_, rfl⟩; have Z13 : Hid (RowAt v13 g11 63 zeroC) := Lib.hid (by rw [← hv13, ← hg11]; exact RowAt.new w13 _ _); have N13 : Hid (Res g11 w13 v13) := Lib.hid (by rw [← hv13, ← hg11]; exact Res.start w13); rw [show zeroC.toArray = #[.string ⟨#[]⟩, .int .i64 0, .string ⟨#[]⟩] from rfl] at hv13)
        | (refine wpList_store_row rfl 63 _ _ rfl g11 63 [.string ⟨XU.host.toArray⟩, .int .i64 XU.port, .string ⟨XU.path.toArray⟩] zeroC rfl rfl Z13.out rfl (by kernel_rfl) uri_one ?_; intro w14 hq14 ho14; have H14 := Lib.hid (H13.out.add (by rw [hg11]; exact (N13.out.stored ho14 hq14 rfl).below) hq14); clear Z13 N13 H13 ho14 hq14 hg11 hv13; have V0 := H14.out.get (.tail _ (.head _)); have y0 := V0.cell (j := 0) rfl; have y1 := V0.cell (j := 1) rfl; have y2 := V0.cell (j := 2) rfl; have y9 := V0.lt; clear V0)
        | (go_at_call 41; refine (P1.out _).mono ?_; rintro e w15 ⟨rfl, hb15⟩; have H15 := Lib.hid (H14.out.step hb15); clear hb15 y0 y1 y2 y9)
        | (go_at_call 37; refine (P2.out _ H15.out.below).mono ?_; rintro e w16 ⟨rfl, hb16⟩; have H16 := Lib.hid (H15.out.step hb16); clear hb16; obtain ⟨g13, hg13⟩ : ∃ g, w16.heap.size = g := ⟨_, rfl⟩; obtain ⟨v16, hv16⟩ : ∃ V, w16.alloc (.cells zeroC.toArray 63) = V := ⟨_, rfl⟩; have Z16 : Hid (RowAt v16 g13 63 zeroC) := Lib.hid (by rw [← hv16, ← hg13]; exact RowAt.new w16 _ _); have N16 : Hid (Res g13 w16 v16) := Lib.hid (by rw [← hv16, ← hg13]; exact Res.start w16); rw [show zeroC.toArray = #[.string ⟨#[]⟩, .int .i64 0, .string ⟨#[]⟩] from rfl] at hv16)
        | (refine wpList_store_row rfl 63 _ _ rfl g13 63 [.string ⟨VU.host.toArray⟩, .int .i64 VU.port, .string ⟨VU.path.toArray⟩] zeroC rfl rfl Z16.out rfl (by kernel_rfl) uri_one ?_; intro w17 hq17 ho17; have H17 := Lib.hid (H16.out.add (by rw [hg13]; exact (N16.out.stored ho17 hq17 rfl).below) hq17); clear Z16 N16 H16 ho17 hq17 hg13 hv16))
      have V0 := H17.out.get (.head _); have x0 := V0.cell (j := 0) rfl; have x1 := V0.cell (j := 1) rfl; have x2 := V0.cell (j := 2) rfl; have x9 := V0.lt; clear V0
      have V0 := H17.out.get (.tail _ (.tail _ (.head _))); have y0 := V0.cell (j := 0) rfl; have y1 := V0.cell (j := 1) rfl; have y2 := V0.cell (j := 2) rfl; have y9 := V0.lt; clear V0
      have V0 := H17.out.get (.tail _ (.head _)); have z0 := V0.cell (j := 0) rfl; have z1 := V0.cell (j := 1) rfl; have z2 := V0.cell (j := 2) rfl; have z9 := V0.lt; clear V0
      by_cases h47 : c = 47
      · subst h47
        obtain ⟨rfl, rfl⟩ : XU = VU ∧ XE = 0 := by have := H47.out rfl; simpa using this
        have e47 : (((47 : UInt8).toNat : Int) != 47) = false := by decide
        refine wp_region_seq ?_
        iterate 3
          refine seq_take (v := ?_) (wanted_un rfl) ?_ ?_
          rotate_left
          · go_simp
            try with_reducible rfl
          try simp only [Act.put, List.setIfInBounds_toArray, List.set_cons_zero, List.set_cons_succ]
        iterate 3
          refine seq_take (v := ?_) (wanted_yes rfl rfl rfl rfl) ?_ ?_
          rotate_left
          · go_simp
            try with_reducible rfl
          try simp only [Act.put, List.setIfInBounds_toArray, List.set_cons_zero, List.set_cons_succ]
        iterate 2
          refine seq_take (v := ?_) (wanted_un rfl) ?_ ?_
          rotate_left
          · go_simp
            try with_reducible rfl
          try simp only [Act.put, List.setIfInBounds_toArray, List.set_cons_zero, List.set_cons_succ]
        iterate 12
          refine seq_take (v := ?_) (wanted_yes rfl rfl rfl rfl) ?_ ?_
          rotate_left
          · go_simp
            try with_reducible rfl
          try simp only [Act.put, List.setIfInBounds_toArray, List.set_cons_zero, List.set_cons_succ]
        iterate 2
          refine seq_take (v := ?_) (wanted_un rfl) ?_ ?_
          rotate_left
          · go_simp
            try with_reducible rfl
          try simp only [Act.put, List.setIfInBounds_toArray, List.set_cons_zero, List.set_cons_succ]
        refine seq_done ?_
        go_wp2_with fail
        go_ret
        exact ⟨rfl, H17.out.below⟩
      · have e47' : ((c.toNat : Int) == 47) = false := by rw [byteLit c 47 47 rfl, beq_eq_false_iff_ne]; intro h; exact h47 (UInt8.toNat_inj.1 h)
        have e47 : ((c.toNat : Int) != 47) = true := by rw [bne, e47']; rfl
        refine wp_region_seq ?_
        iterate 3
          refine seq_take (v := ?_) (wanted_un rfl) ?_ ?_
          rotate_left
          · go_simp
            try with_reducible rfl
          try simp only [Act.put, List.setIfInBounds_toArray, List.set_cons_zero, List.set_cons_succ]
        iterate 3
          refine seq_take (v := ?_) (wanted_yes rfl rfl rfl rfl) ?_ ?_
          rotate_left
          · go_simp
            try with_reducible rfl
          try simp only [Act.put, List.setIfInBounds_toArray, List.set_cons_zero, List.set_cons_succ]
        iterate 2
          refine seq_take (v := ?_) (wanted_un rfl) ?_ ?_
          rotate_left
          · go_simp
            try with_reducible rfl
          try simp only [Act.put, List.setIfInBounds_toArray, List.set_cons_zero, List.set_cons_succ]
        iterate 4
          refine seq_take (v := ?_) (wanted_yes rfl rfl rfl rfl) ?_ ?_
          rotate_left
          · go_simp
            try with_reducible rfl
          try simp only [Act.put, List.setIfInBounds_toArray, List.set_cons_zero, List.set_cons_succ]
        iterate 3
          refine seq_skip (wanted_no rfl rfl rfl rfl) ?_
          try simp only [Act.put, List.setIfInBounds_toArray, List.set_cons_zero, List.set_cons_succ]
        iterate 3
          refine seq_skip (wanted_und rfl rfl rfl rfl) ?_
          try simp only [Act.put, List.setIfInBounds_toArray, List.set_cons_zero, List.set_cons_succ]
        iterate 1
          refine seq_skip (wanted_no rfl rfl rfl rfl) ?_
          try simp only [Act.put, List.setIfInBounds_toArray, List.set_cons_zero, List.set_cons_succ]
        iterate 1
          refine seq_take (v := ?_) (wanted_yes rfl rfl rfl rfl) ?_ ?_
          rotate_left
          · go_simp
            try with_reducible rfl
          try simp only [Act.put, List.setIfInBounds_toArray, List.set_cons_zero, List.set_cons_succ]
        iterate 2
          refine seq_take (v := ?_) (wanted_un rfl) ?_ ?_
          rotate_left
          · go_simp
            try with_reducible rfl
          try simp only [Act.put, List.setIfInBounds_toArray, List.set_cons_zero, List.set_cons_succ]
        refine seq_done ?_
        go_wp2_with fail
        go_ret
        exact ⟨rfl, H17.out.below⟩
    · have e0 : (VE == 0) = false := by rw [beq_eq_false_iff_ne]; exact hz
      have e1 : (VE != 0) = true := by rw [bne, e0]; rfl
      have hzu : VU = zeroU := by
        have := ofU_err s.data.toList t.data.toList
        rw [HK.out] at this
        exact this.resolve_left hz
      have V0 := H12.out.get (.head _)
      rw [hzu] at V0
      have y0 : wc.cell? ⟨g7, 0, none⟩ = some (.string ⟨#[]⟩) := V0.cell (j := 0) rfl
      have y1 : wc.cell? ⟨g7, 1, none⟩ = some (.int .i64 0) := V0.cell (j := 1) rfl
      have y2 : wc.cell? ⟨g7, 2, none⟩ = some (.string ⟨#[]⟩) := V0.cell (j := 2) rfl
      have EQ := fun W => uri_same_eql ⟨#[]⟩ 0 ⟨#[]⟩ W
      clear V0 hz hzu
      go_wp2_with fail
      go_ret
      exact ⟨rfl, H12.out.below⟩
end Go.Proofs.YtaddefjkjlkjnaaDoor
