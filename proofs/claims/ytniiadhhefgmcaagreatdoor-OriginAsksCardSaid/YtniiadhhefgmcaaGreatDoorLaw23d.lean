/- Layer 23's laws: OriginAsks, walked. Condition: the world's shape. Printed by mklaw23d.py. -/
import Derived.Test.YtniiadhhefgmcaaGreatDoorAk
namespace Go.Proofs.YtniiadhhefgmcaaGreatDoor
open Go.RowKit IH
set_option maxRecDepth 100000
set_option linter.unusedVariables false
theorem list7q {l : List Value} (h : l.length = 7) : ∃ a0 a1 a2 a3 a4 a5 a6, l = [a0, a1, a2, a3, a4, a5, a6] := by
  match l, h with
  | [a0, a1, a2, a3, a4, a5, a6], _ => exact ⟨a0, a1, a2, a3, a4, a5, a6, rfl⟩
set_option maxHeartbeats 16000000 in
theorem oasks_far (C : List Value) (hC : RightC C) (me : ByteArray) (A1 A2 : Option Addr) (n1 n2 c1 c2 : Nat) (h0 : C[0]? = some (.string me)) (h5 : C[5]? = some (.slice A1 n1 c1)) (h6 : C[6]? = some (.slice A2 n2 c2)) (Hu Pa : ByteArray) (pu : Int) (A3 : Option Addr) (n3 c3 : Nat) (sa sb : Bool) (w : World) (h : sa = false ∨ sb = false ∨ 100 < me.size ∨ 300 < Hu.size ∨ 2000 < Pa.size)
    (AW : ∀ W, Below w.heap.size w W → Calls Tryz.prog 8 #[] W fun e w' => e = .returned (.bool true) ∧ Below W.heap.size W w')
    (SH1 : ∀ W, Below w.heap.size w W → Calls Tryz.prog 9 #[.slice A1 n1 c1, .slice A2 n2 c2] W fun e w' => e = .returned (.bool sa) ∧ W = w')
    (SH2 : ∀ W, Below w.heap.size w W → Calls Tryz.prog 9 #[.slice A3 n3 c3, .slice none 0 0] W fun e w' => e = .returned (.bool sb) ∧ W = w') :
    Calls Tryz.prog 5 #[.agg C.toArray, .agg #[.string Hu, .int .i64 pu, .string Pa], .slice A3 n3 c3] w fun e w' => e = .returned (.bool true) ∧ Below w.heap.size w w' := by
  have HMi : Hid ((Tryz.prog.info? 27).map (·.size) = some 7) := Lib.hid (by kernel_rfl)
  have HUi : Hid ((Tryz.prog.info? 53).map (·.size) = some 3) := Lib.hid (by kernel_rfl)
  obtain ⟨w0, hw0⟩ : ∃ W : World, w.alloc (.cells C.toArray 27) = W := ⟨_, rfl⟩
  have B0 : Hid (Below w.heap.size w w0) := Lib.hid (by rw [← hw0]; exact (Below.refl _ _).alloc (Nat.le_refl _) _)
  have Ra0 : Hid (RowAt w0 w.heap.size 27 C) := Lib.hid (by rw [← hw0]; exact RowAt.new w 27 C)
  obtain ⟨w1, hw1⟩ : ∃ W : World, w0.alloc (.cells #[.string Hu, .int .i64 pu, .string Pa] 53) = W := ⟨_, rfl⟩
  have b01 : Below w0.heap.size w0 w1 := by rw [← hw1]; exact (Below.refl _ _).alloc (Nat.le_refl _) _
  have Ru1 : Hid (RowAt w1 w0.heap.size 53 [.string Hu, .int .i64 pu, .string Pa]) := Lib.hid (by rw [← hw1]; exact RowAt.new w0 53 _)
  have B1 : Hid (Below w.heap.size w w1) := Lib.hid (below_step B0.out b01)
  have Ra1 : Hid (RowAt w1 w.heap.size 27 C) := Lib.hid (Ra0.out.below b01 Ra0.out.lt)
  obtain ⟨gu, hgu⟩ : ∃ x, w0.heap.size = x := ⟨_, rfl⟩
  rw [hgu] at Ru1
  have HCi : Hid ((Tryz.prog.info? 27).map (·.size) = some C.length) := Lib.hid (by rw [hC.1]; exact HMi.out)
  have HCR := Lib.hid hC
  have Hc := Lib.hid (And.intro h0 (And.intro h5 h6))
  have tok1 : Hid True := Lib.hid trivial
  replace AW := Lib.hid AW
  replace SH1 := Lib.hid SH1
  replace SH2 := Lib.hid SH2
  clear b01 hC h0 h5 h6 Ra0 B0
  cases sa
  · clear h
    go_enter Tryz.func5, Tryz.ntmps5
    go_wp2_with (first
      | (have _t := tok1; go_at_call 8; (with_reducible refine (AW.out _ B1.out).mono ?_); rintro e w2 ⟨rfl, hb2⟩; have B2 := Lib.hid (below_step B1.out hb2); have Ra2 := Lib.hid (Ra1.out.below hb2 Ra1.out.lt); have Ru2 := Lib.hid (Ru1.out.below hb2 Ru1.out.lt); have x0 := Ra2.out.cell Hc.out.1; have x5 := Ra2.out.cell Hc.out.2.1; have x6 := Ra2.out.cell Hc.out.2.2; have u0 := Ru2.out.cell (j := 0) rfl; have u2 := Ru2.out.cell (j := 2) rfl; have SHa := Lib.hid (SH1.out _ B2.out); have SHb := Lib.hid (SH2.out _ B2.out); have tok2 : Hid True := Lib.hid trivial; clear hb2 tok1 _t)
      | (have _t := tok2; go_at_call 9; (with_reducible refine SHa.out.mono ?_); rintro e ws ⟨rfl, rfl⟩; have tok3 : Hid True := Lib.hid trivial; clear tok2 _t)
      | (go_at_call 8; (with_reducible refine (AW.out _ B2.out).mono ?_); rintro e w3 ⟨rfl, hb3⟩; have B3 := Lib.hid (below_step B2.out hb3); clear hb3))
    go_ret
    exact ⟨rfl, B3.out⟩
  · cases sb
    · clear h
      go_enter Tryz.func5, Tryz.ntmps5
      go_wp2_with (first
        | (have _t := tok1; go_at_call 8; (with_reducible refine (AW.out _ B1.out).mono ?_); rintro e w2 ⟨rfl, hb2⟩; have B2 := Lib.hid (below_step B1.out hb2); have Ra2 := Lib.hid (Ra1.out.below hb2 Ra1.out.lt); have Ru2 := Lib.hid (Ru1.out.below hb2 Ru1.out.lt); have x0 := Ra2.out.cell Hc.out.1; have x5 := Ra2.out.cell Hc.out.2.1; have x6 := Ra2.out.cell Hc.out.2.2; have u0 := Ru2.out.cell (j := 0) rfl; have u2 := Ru2.out.cell (j := 2) rfl; have SHa := Lib.hid (SH1.out _ B2.out); have SHb := Lib.hid (SH2.out _ B2.out); have tok2 : Hid True := Lib.hid trivial; clear hb2 tok1 _t)
        | (have _t := tok2; go_at_call 9; (with_reducible refine SHa.out.mono ?_); rintro e ws ⟨rfl, rfl⟩; have tok3 : Hid True := Lib.hid trivial; clear tok2 _t)
        | (have _t := tok3; go_at_call 9; (with_reducible refine SHb.out.mono ?_); rintro e ws ⟨rfl, rfl⟩; have tok4 : Hid True := Lib.hid trivial; clear tok3 _t)
        | (go_at_call 8; (with_reducible refine (AW.out _ B2.out).mono ?_); rintro e w3 ⟨rfl, hb3⟩; have B3 := Lib.hid (below_step B2.out hb3); clear hb3))
      go_ret
      exact ⟨rfl, B3.out⟩
    · by_cases hA : (100 : Int) < (me.size : Int)
      · clear h
        go_enter Tryz.func5, Tryz.ntmps5
        go_wp2_with (first
          | (have _t := tok1; go_at_call 8; (with_reducible refine (AW.out _ B1.out).mono ?_); rintro e w2 ⟨rfl, hb2⟩; have B2 := Lib.hid (below_step B1.out hb2); have Ra2 := Lib.hid (Ra1.out.below hb2 Ra1.out.lt); have Ru2 := Lib.hid (Ru1.out.below hb2 Ru1.out.lt); have x0 := Ra2.out.cell Hc.out.1; have x5 := Ra2.out.cell Hc.out.2.1; have x6 := Ra2.out.cell Hc.out.2.2; have u0 := Ru2.out.cell (j := 0) rfl; have u2 := Ru2.out.cell (j := 2) rfl; have SHa := Lib.hid (SH1.out _ B2.out); have SHb := Lib.hid (SH2.out _ B2.out); have tok2 : Hid True := Lib.hid trivial; clear hb2 tok1 _t)
          | (have _t := tok2; go_at_call 9; (with_reducible refine SHa.out.mono ?_); rintro e ws ⟨rfl, rfl⟩; have tok3 : Hid True := Lib.hid trivial; clear tok2 _t)
          | (have _t := tok3; go_at_call 9; (with_reducible refine SHb.out.mono ?_); rintro e ws ⟨rfl, rfl⟩; have tok4 : Hid True := Lib.hid trivial; clear tok3 _t)
          | (go_at_call 8; (with_reducible refine (AW.out _ B2.out).mono ?_); rintro e w3 ⟨rfl, hb3⟩; have B3 := Lib.hid (below_step B2.out hb3); clear hb3))
        go_ret
        exact ⟨rfl, B3.out⟩
      · by_cases hB : (300 : Int) < (Hu.size : Int)
        · clear h
          go_enter Tryz.func5, Tryz.ntmps5
          go_wp2_with (first
            | (have _t := tok1; go_at_call 8; (with_reducible refine (AW.out _ B1.out).mono ?_); rintro e w2 ⟨rfl, hb2⟩; have B2 := Lib.hid (below_step B1.out hb2); have Ra2 := Lib.hid (Ra1.out.below hb2 Ra1.out.lt); have Ru2 := Lib.hid (Ru1.out.below hb2 Ru1.out.lt); have x0 := Ra2.out.cell Hc.out.1; have x5 := Ra2.out.cell Hc.out.2.1; have x6 := Ra2.out.cell Hc.out.2.2; have u0 := Ru2.out.cell (j := 0) rfl; have u2 := Ru2.out.cell (j := 2) rfl; have SHa := Lib.hid (SH1.out _ B2.out); have SHb := Lib.hid (SH2.out _ B2.out); have tok2 : Hid True := Lib.hid trivial; clear hb2 tok1 _t)
            | (have _t := tok2; go_at_call 9; (with_reducible refine SHa.out.mono ?_); rintro e ws ⟨rfl, rfl⟩; have tok3 : Hid True := Lib.hid trivial; clear tok2 _t)
            | (have _t := tok3; go_at_call 9; (with_reducible refine SHb.out.mono ?_); rintro e ws ⟨rfl, rfl⟩; have tok4 : Hid True := Lib.hid trivial; clear tok3 _t)
            | (go_at_call 8; (with_reducible refine (AW.out _ B2.out).mono ?_); rintro e w3 ⟨rfl, hb3⟩; have B3 := Lib.hid (below_step B2.out hb3); clear hb3))
          go_ret
          exact ⟨rfl, B3.out⟩
        · have hD : (2000 : Int) < (Pa.size : Int) := by rcases h with h | h | h | h | h <;> first | omega | cases h
          clear h
          go_enter Tryz.func5, Tryz.ntmps5
          go_wp2_with (first
            | (have _t := tok1; go_at_call 8; (with_reducible refine (AW.out _ B1.out).mono ?_); rintro e w2 ⟨rfl, hb2⟩; have B2 := Lib.hid (below_step B1.out hb2); have Ra2 := Lib.hid (Ra1.out.below hb2 Ra1.out.lt); have Ru2 := Lib.hid (Ru1.out.below hb2 Ru1.out.lt); have x0 := Ra2.out.cell Hc.out.1; have x5 := Ra2.out.cell Hc.out.2.1; have x6 := Ra2.out.cell Hc.out.2.2; have u0 := Ru2.out.cell (j := 0) rfl; have u2 := Ru2.out.cell (j := 2) rfl; have SHa := Lib.hid (SH1.out _ B2.out); have SHb := Lib.hid (SH2.out _ B2.out); have tok2 : Hid True := Lib.hid trivial; clear hb2 tok1 _t)
            | (have _t := tok2; go_at_call 9; (with_reducible refine SHa.out.mono ?_); rintro e ws ⟨rfl, rfl⟩; have tok3 : Hid True := Lib.hid trivial; clear tok2 _t)
            | (have _t := tok3; go_at_call 9; (with_reducible refine SHb.out.mono ?_); rintro e ws ⟨rfl, rfl⟩; have tok4 : Hid True := Lib.hid trivial; clear tok3 _t)
            | (go_at_call 8; (with_reducible refine (AW.out _ B2.out).mono ?_); rintro e w3 ⟨rfl, hb3⟩; have B3 := Lib.hid (below_step B2.out hb3); clear hb3))
          go_ret
          exact ⟨rfl, B3.out⟩
set_option maxHeartbeats 32000000 in
theorem oasks_good (C : List Value) (hC : RightC C) (me : ByteArray) (A1 A2 : Option Addr) (n1 n2 c1 c2 : Nat) (h0 : C[0]? = some (.string me)) (h5 : C[5]? = some (.slice A1 n1 c1)) (h6 : C[6]? = some (.slice A2 n2 c2)) (Hu Pa : ByteArray) (pu : Int) (A3 : Option Addr) (n3 c3 : Nat) (L more : List Fld) (m : Msg) (w : World) (s1 : SliceIn w w.heap.size 2 A1 n1 c1 (fldsV L)) (k1 : me.size ≤ 100) (k2 : Hu.size ≤ 300) (k3 : Pa.size ≤ 2000) (k4 : n1 ≤ 40) (k5 : m.fields.length ≤ 1000000)
    (AW : ∀ W, Below w.heap.size w W → Calls Tryz.prog 8 #[] W fun e w' => e = .returned (.bool true) ∧ Below W.heap.size W w')
    (SH1 : ∀ W, Below w.heap.size w W → Calls Tryz.prog 9 #[.slice A1 n1 c1, .slice A2 n2 c2] W fun e w' => e = .returned (.bool true) ∧ W = w')
    (SH2 : ∀ W, Below w.heap.size w W → Calls Tryz.prog 9 #[.slice A3 n3 c3, .slice none 0 0] W fun e w' => e = .returned (.bool true) ∧ W = w')
    (AK : ∀ W, Below w.heap.size w W → Calls Tryz.prog 23 #[.agg C.toArray, .agg #[.string Hu, .int .i64 pu, .string Pa], .slice A3 n3 c3] W fun e w' => ∃ C', e = .returned (.agg C'.toArray) ∧ MsgO w' m C' ∧ Below W.heap.size W w')
    (RK : ∀ W, Below w.heap.size w W → Calls Tryz.prog 24 #[.agg C.toArray, .agg #[.string Hu, .int .i64 pu, .string Pa], .slice A3 n3 c3] W fun e w' => ∃ C', e = .returned (.agg C'.toArray) ∧ IsMsg (toldOf m.start m.fields m.body) C' w' ∧ Below W.heap.size W w') :
    Calls Tryz.prog 5 #[.agg C.toArray, .agg #[.string Hu, .int .i64 pu, .string Pa], .slice A3 n3 c3] w fun e w' => e = .returned (.bool true) ∧ Below w.heap.size w w' := by
  have HMi : Hid ((Tryz.prog.info? 27).map (·.size) = some 7) := Lib.hid (by kernel_rfl)
  have HUi : Hid ((Tryz.prog.info? 53).map (·.size) = some 3) := Lib.hid (by kernel_rfl)
  obtain ⟨w0, hw0⟩ : ∃ W : World, w.alloc (.cells C.toArray 27) = W := ⟨_, rfl⟩
  have B0 : Hid (Below w.heap.size w w0) := Lib.hid (by rw [← hw0]; exact (Below.refl _ _).alloc (Nat.le_refl _) _)
  have Ra0 : Hid (RowAt w0 w.heap.size 27 C) := Lib.hid (by rw [← hw0]; exact RowAt.new w 27 C)
  obtain ⟨w1, hw1⟩ : ∃ W : World, w0.alloc (.cells #[.string Hu, .int .i64 pu, .string Pa] 53) = W := ⟨_, rfl⟩
  have b01 : Below w0.heap.size w0 w1 := by rw [← hw1]; exact (Below.refl _ _).alloc (Nat.le_refl _) _
  have Ru1 : Hid (RowAt w1 w0.heap.size 53 [.string Hu, .int .i64 pu, .string Pa]) := Lib.hid (by rw [← hw1]; exact RowAt.new w0 53 _)
  have B1 : Hid (Below w.heap.size w w1) := Lib.hid (below_step B0.out b01)
  have Ra1 : Hid (RowAt w1 w.heap.size 27 C) := Lib.hid (Ra0.out.below b01 Ra0.out.lt)
  obtain ⟨gu, hgu⟩ : ∃ x, w0.heap.size = x := ⟨_, rfl⟩
  rw [hgu] at Ru1
  have HCi : Hid ((Tryz.prog.info? 27).map (·.size) = some C.length) := Lib.hid (by rw [hC.1]; exact HMi.out)
  have HCR := Lib.hid hC
  have Hc := Lib.hid (And.intro h0 (And.intro h5 h6))
  have tok1 : Hid True := Lib.hid trivial
  replace AW := Lib.hid AW
  replace SH1 := Lib.hid SH1
  replace SH2 := Lib.hid SH2
  clear b01 hC h0 h5 h6 Ra0 B0
  have hA : ¬ (100 : Int) < (me.size : Int) := by omega
  have hB : ¬ (300 : Int) < (Hu.size : Int) := by omega
  have hD : ¬ (2000 : Int) < (Pa.size : Int) := by omega
  have Hs1 := Lib.hid s1
  have HK4 := Lib.hid k4
  have HK5 := Lib.hid k5
  have hL1 := fld_count s1
  have HL1 := Lib.hid hL1
  replace AK := Lib.hid AK
  replace RK := Lib.hid RK
  clear s1 k1 k2 k3 k4 k5 hL1
  go_enter Tryz.func5, Tryz.ntmps5
  go_upto_region 3 with (first
    | (have _t := tok1; go_at_call 8; (with_reducible refine (AW.out _ B1.out).mono ?_); rintro e w2 ⟨rfl, hb2⟩; have B2 := Lib.hid (below_step B1.out hb2); have Ra2 := Lib.hid (Ra1.out.below hb2 Ra1.out.lt); have Ru2 := Lib.hid (Ru1.out.below hb2 Ru1.out.lt); have x0 := Ra2.out.cell Hc.out.1; have x5 := Ra2.out.cell Hc.out.2.1; have x6 := Ra2.out.cell Hc.out.2.2; have u0 := Ru2.out.cell (j := 0) rfl; have u2 := Ru2.out.cell (j := 2) rfl; have SHa := Lib.hid (SH1.out _ B2.out); have SHb := Lib.hid (SH2.out _ B2.out); have tok2 : Hid True := Lib.hid trivial; clear hb2 tok1 _t)
    | (have _t := tok2; go_at_call 9; (with_reducible refine SHa.out.mono ?_); rintro e ws ⟨rfl, rfl⟩; have tok3 : Hid True := Lib.hid trivial; clear tok2 _t)
    | (have _t := tok3; go_at_call 9; (with_reducible refine SHb.out.mono ?_); rintro e ws ⟨rfl, rfl⟩; have tok4 : Hid True := Lib.hid trivial; clear tok3 _t))
  clear hw0 hw1 hgu hA hB hD AW SH1 SH2 SHa SHb Ra1 Ru1 B1 x0 x6 u0 u2
  have y5 := (Ra2.out.alloc (.cells #[] 74)).cell Hc.out.2.1
  clear x5
  have OW := Lib.hid (World.ownsRow_lit (base := w.heap.size) (e := 74) (size := 2) w2 #[] 0 B2.out.size (by simp [maxLen]) rfl)
  have HinS := Lib.hid (((Hs1.out.below B2.out).more B2.out.size).alloc (Nat.le_refl _) (.cells #[] 74))
  go_upto_region 4 with (at_builtin; refine wpList_appS fld_ty rfl _ _ rfl w.heap.size _ 0 [] rfl OW.out w2.heap.size A1 n1 c1 (fldsV L) rfl HinS.out (fldsV_one _) (by have := HK4.out; omega) (by have := HK4.out; simp only [maxLen]; omega) (by have := B2.out.size; simp; omega) ?_; intro v3 w3 hown hgr; rw [List.nil_append, Nat.zero_add] at hown; obtain ⟨Ai, ci, rfl, -⟩ := own_slice hown; have b3 := ((Below.refl w2.heap.size w2).alloc (Nat.le_refl _) (.cells #[] 74)).grown hgr (by simp) (fun g hg => by have e : w2.heap.size = g := Option.some.inj hg; omega); have O3 := Lib.hid hown; have B3 := Lib.hid (below_step B2.out b3); have Ra3 := Lib.hid (Ra2.out.below b3 Ra2.out.lt); have Ru3 := Lib.hid (Ru2.out.below b3 Ru2.out.lt); clear hown hgr b3)
  have u0 := Ru3.out.cell (j := 0) rfl
  have u1 := Ru3.out.cell (j := 1) rfl
  have u2 := Ru3.out.cell (j := 2) rfl
  have AKa := Lib.hid (AK.out w3 B3.out)
  clear AK OW HinS Ra2 Ru2 B2 y5
  go_upto_region 5 with (first
    | (refine wpList_load_g (by first | exact wanted_un rfl | exact wanted_yes rfl rfl rfl rfl | exact (wanted_is rfl rfl rfl rfl).trans (by simp; omega) | exact (wanted_is rfl rfl rfl rfl).trans (by simp)) 27 _ rfl w.heap.size 0 rfl C _ (rangeOf Ra3.out) Tryz.underlying27 rfl HCi.out ?_)
    | (go_at_call 23; (with_reducible refine AKa.out.mono ?_); rintro e w4 ⟨D, rfl, hm4, hb4⟩; have B4 := Lib.hid (below_step B3.out hb4); have Ra4 := Lib.hid (Ra3.out.below hb4 Ra3.out.lt); have Ru4 := Lib.hid (Ru3.out.below hb4 Ru3.out.lt); have O4 := Lib.hid (own_below O3.out hb4); have M4 := Lib.hid hm4; have DR := Lib.hid hm4.right; have HDi : Hid ((Tryz.prog.info? 27).map (·.size) = some D.length) := Lib.hid (by rw [DR.out.1]; exact HMi.out); clear hm4 hb4 u0 u1 u2)
    | (refine wpList_store_row rfl 27 _ _ rfl w4.heap.size _ D zeroM rfl rfl (RowAt.new w4 27 _) (by rw [DR.out.1]; rfl) HDi.out DR.out.2 ?_; intro w5 hro hoo; have hb5 := hoo.below ((Below.refl w4.heap.size w4).alloc (Nat.le_refl _) _) (Nat.le_refl _); have B5 := Lib.hid (below_step B4.out hb5); have Ra5 := Lib.hid (Ra4.out.below hb5 Ra4.out.lt); have Ru5 := Lib.hid (Ru4.out.below hb5 Ru4.out.lt); have O5 := Lib.hid (own_below O4.out hb5); have M5 := Lib.hid (M4.out.below hb5); have RD5 := Lib.hid hro; clear hro hoo hb5))
  clear B3 Ra3 Ru3 O3 B4 Ra4 Ru4 O4 M4 AKa
  obtain ⟨p0, p1, p2, p3, p4, p5, p6, hCe⟩ := list7q HCR.out.1
  obtain rfl : p5 = .slice A1 n1 c1 := by have h := Hc.out.2.1; rw [hCe] at h; injection h with h
  obtain ⟨r0, r1, r2, r3, r4, r5, r6, hDe⟩ := list7q DR.out.1
  have HCe := Lib.hid hCe
  have HDe := Lib.hid hDe
  have RKa := Lib.hid (fun (W : World) (h : Below w5.heap.size w5 W) => RK.out W (below_step B5.out h))
  have SM1 := Lib.hid (fun (E : List Value) (W : World) (h : Below w5.heap.size w5 W) (hE : IsMsg (toldOf m.start m.fields m.body) E W) => same_of m.start m.fields m.body HK5.out D E W (M5.out.below h).of_msg hE)
  have SM2 : Hid (∀ W, Below w5.heap.size w5 W → Calls Tryz.prog 21 #[.agg #[.string ⟨#[]⟩, .string ⟨#[]⟩, .int .i64 0, .string ⟨#[]⟩, .int .i64 0, .slice Ai n1 ci, .slice none 0 0], .agg #[.string ⟨#[]⟩, .string ⟨#[]⟩, .int .i64 0, .string ⟨#[]⟩, .int .i64 0, .slice A1 n1 c1, .slice none 0 0]] W fun e w' => e = .returned (.bool true) ∧ Below W.heap.size W w') := Lib.hid (fun W h => by
    have i1 : IsMsg (toldOf Sta.zero L []) (msgC Sta.zero (.slice Ai n1 ci) (.slice none 0 0)) W := ⟨_, _, _, _, _, _, rfl, ((SliceIn.of_own O5.out).below h).more h.size, SliceIn.none_ (Nat.zero_le _)⟩
    have i2 : IsMsg (toldOf Sta.zero L []) (msgC Sta.zero (.slice A1 n1 c1) (.slice none 0 0)) W := ⟨_, _, _, _, _, _, rfl, (Hs1.out.below (below_step B5.out h)).more (below_step B5.out h).size, SliceIn.none_ (Nat.zero_le _)⟩
    exact same_of Sta.zero L [] (by have := HL1.out; have := HK4.out; omega) _ _ W i1 i2)
  clear hCe hDe RK
  refine wp_region_tree (fun W => Below w5.heap.size w5 W) (.take 0 (.take 1 (.take 2 (.take 3 (.node (.fork 4 (.node (.fork 5 (.take 6 (.take 7 (.take 8 (.take 9 (.take 10 (.take 11 (.node (.fork 12 (.take 13 (.take 14 (.done))) (.stop))))))))) (.stop))) (.stop))))))) (by kernel_rfl) (by kernel_rfl) (of_decide_eq_true (by kernel_rfl)) rfl (by kernel_rfl) (below_drewN (Below.refl _ _) 1) ?_
  intro w1 hH
  iterate 4
    refine tree_take (v := ?_) rfl (by rfl) ?_ ?_
    rotate_left
    · intro w2 hSw
      have ra := Ra5.out.below hSw Ra5.out.lt
      have rd := RD5.out.below hSw RD5.out.lt
      have ru := Ru5.out.below hSw Ru5.out.lt
      have x0 := ra.cell (j := 0) (u := p0) (by rw [HCe.out]; rfl)
      have x1 := ra.cell (j := 1) (u := p1) (by rw [HCe.out]; rfl)
      have x2 := ra.cell (j := 2) (u := p2) (by rw [HCe.out]; rfl)
      have x3 := ra.cell (j := 3) (u := p3) (by rw [HCe.out]; rfl)
      have x4 := ra.cell (j := 4) (u := p4) (by rw [HCe.out]; rfl)
      have x5 := ra.cell (j := 5) (u := .slice A1 n1 c1) (by rw [HCe.out]; rfl)
      have x6 := ra.cell (j := 6) (u := p6) (by rw [HCe.out]; rfl)
      have y0 := rd.cell (j := 0) (u := r0) (by rw [HDe.out]; rfl)
      have y1 := rd.cell (j := 1) (u := r1) (by rw [HDe.out]; rfl)
      have y2 := rd.cell (j := 2) (u := r2) (by rw [HDe.out]; rfl)
      have y3 := rd.cell (j := 3) (u := r3) (by rw [HDe.out]; rfl)
      have y4 := rd.cell (j := 4) (u := r4) (by rw [HDe.out]; rfl)
      have y5 := rd.cell (j := 5) (u := r5) (by rw [HDe.out]; rfl)
      have y6 := rd.cell (j := 6) (u := r6) (by rw [HDe.out]; rfl)
      have u0 := ru.cell (j := 0) rfl
      have u1 := ru.cell (j := 1) rfl
      have u2 := ru.cell (j := 2) rfl
      clear ra rd ru
      clear hSw
      go_simp
      try with_reducible rfl
    try simp only [Act.put, List.setIfInBounds_toArray, List.set_cons_zero, List.set_cons_succ]
  refine tree_node ?_
  refine tree_move rfl (by rfl) (fun K hK => ?_) ?_
  · go_simp
    rw [show (Value.agg #[p0, p1, p2, p3, p4, .slice A1 n1 c1, p6]) = .agg C.toArray from by rw [HCe.out]]
    (with_reducible refine (RKa.out _ hH.out).mono ?_)
    rintro e w6 ⟨E, rfl, hE6, hb6⟩
    refine hK.out _ _ (below_step hH.out hb6) ?_
    have E6 := Lib.hid hE6
    have ER : Hid (RightC E) := Lib.hid (isMsg_right _ _ _ hE6)
    clear hH hK K hb6 hE6
    intro hH
    try simp only [Act.put, List.setIfInBounds_toArray, List.set_cons_zero, List.set_cons_succ]
    refine tree_node ?_
    refine tree_move rfl (by rfl) (fun K hK => ?_) ?_
    · go_simp
      rw [show (Value.agg #[r0, r1, r2, r3, r4, r5, r6]) = .agg D.toArray from by rw [HDe.out]]
      (with_reducible refine (SM1.out E _ hH.out E6.out).mono ?_)
      rintro e w7 ⟨rfl, hb7⟩
      refine hK.out _ _ (below_step hH.out hb7) ?_
      clear hH hK K hb7
      intro hH
      try simp only [Act.put, List.setIfInBounds_toArray, List.set_cons_zero, List.set_cons_succ]
      iterate 6
        refine tree_take (v := ?_) rfl (by rfl) ?_ ?_
        rotate_left
        · intro w2 hSw
          have ra := Ra5.out.below hSw Ra5.out.lt
          have rd := RD5.out.below hSw RD5.out.lt
          have ru := Ru5.out.below hSw Ru5.out.lt
          have x0 := ra.cell (j := 0) (u := p0) (by rw [HCe.out]; rfl)
          have x1 := ra.cell (j := 1) (u := p1) (by rw [HCe.out]; rfl)
          have x2 := ra.cell (j := 2) (u := p2) (by rw [HCe.out]; rfl)
          have x3 := ra.cell (j := 3) (u := p3) (by rw [HCe.out]; rfl)
          have x4 := ra.cell (j := 4) (u := p4) (by rw [HCe.out]; rfl)
          have x5 := ra.cell (j := 5) (u := .slice A1 n1 c1) (by rw [HCe.out]; rfl)
          have x6 := ra.cell (j := 6) (u := p6) (by rw [HCe.out]; rfl)
          have y0 := rd.cell (j := 0) (u := r0) (by rw [HDe.out]; rfl)
          have y1 := rd.cell (j := 1) (u := r1) (by rw [HDe.out]; rfl)
          have y2 := rd.cell (j := 2) (u := r2) (by rw [HDe.out]; rfl)
          have y3 := rd.cell (j := 3) (u := r3) (by rw [HDe.out]; rfl)
          have y4 := rd.cell (j := 4) (u := r4) (by rw [HDe.out]; rfl)
          have y5 := rd.cell (j := 5) (u := r5) (by rw [HDe.out]; rfl)
          have y6 := rd.cell (j := 6) (u := r6) (by rw [HDe.out]; rfl)
          have u0 := ru.cell (j := 0) rfl
          have u1 := ru.cell (j := 1) rfl
          have u2 := ru.cell (j := 2) rfl
          clear ra rd ru
          clear hSw
          go_simp
          try with_reducible rfl
        try simp only [Act.put, List.setIfInBounds_toArray, List.set_cons_zero, List.set_cons_succ]
      refine tree_node ?_
      refine tree_move rfl (by rfl) (fun K hK => ?_) ?_
      · go_simp
        (with_reducible refine (SM2.out _ hH.out).mono ?_)
        rintro e w8 ⟨rfl, hb8⟩
        refine hK.out _ _ (below_step hH.out hb8) ?_
        clear hK K hb8
        intro hH
        try simp only [Act.put, List.setIfInBounds_toArray, List.set_cons_zero, List.set_cons_succ]
        iterate 2
          refine tree_take (v := ?_) rfl (by rfl) ?_ ?_
          rotate_left
          · intro w2 hSw
            have ra := Ra5.out.below hSw Ra5.out.lt
            have rd := RD5.out.below hSw RD5.out.lt
            have ru := Ru5.out.below hSw Ru5.out.lt
            have x0 := ra.cell (j := 0) (u := p0) (by rw [HCe.out]; rfl)
            have x1 := ra.cell (j := 1) (u := p1) (by rw [HCe.out]; rfl)
            have x2 := ra.cell (j := 2) (u := p2) (by rw [HCe.out]; rfl)
            have x3 := ra.cell (j := 3) (u := p3) (by rw [HCe.out]; rfl)
            have x4 := ra.cell (j := 4) (u := p4) (by rw [HCe.out]; rfl)
            have x5 := ra.cell (j := 5) (u := .slice A1 n1 c1) (by rw [HCe.out]; rfl)
            have x6 := ra.cell (j := 6) (u := p6) (by rw [HCe.out]; rfl)
            have y0 := rd.cell (j := 0) (u := r0) (by rw [HDe.out]; rfl)
            have y1 := rd.cell (j := 1) (u := r1) (by rw [HDe.out]; rfl)
            have y2 := rd.cell (j := 2) (u := r2) (by rw [HDe.out]; rfl)
            have y3 := rd.cell (j := 3) (u := r3) (by rw [HDe.out]; rfl)
            have y4 := rd.cell (j := 4) (u := r4) (by rw [HDe.out]; rfl)
            have y5 := rd.cell (j := 5) (u := r5) (by rw [HDe.out]; rfl)
            have y6 := rd.cell (j := 6) (u := r6) (by rw [HDe.out]; rfl)
            have u0 := ru.cell (j := 0) rfl
            have u1 := ru.cell (j := 1) rfl
            have u2 := ru.cell (j := 2) rfl
            clear ra rd ru
            clear hSw
            go_simp
            try with_reducible rfl
          try simp only [Act.put, List.setIfInBounds_toArray, List.set_cons_zero, List.set_cons_succ]
        refine tree_done ?_
        have bz := hH.out
        clear hH
        go_wp2_with fail
        go_ret
        exact ⟨rfl, below_step B5.out bz⟩
      exact tree_stop
    exact tree_stop
  exact tree_stop
theorem oasks_walk (w : World) (hsh : w.ShapedOpen Tryz.prog) (s : Sta) (A : Option Addr) (n c : Nat) (L : List Fld) (B : Option Addr) (m e : Nat) (X : List UInt8) (fA : SliceIn w w.heap.size 2 A n c (fldsV L)) (fB : SliceIn w w.heap.size 1 B m e (bytesV X)) (wS : StaW s)
    (Hu : ByteArray) (pu : Int) (Pa : ByteArray) (_ : Hu.size ≤ maxLen) (wn : (Lit.int .i64 pu).wf = true) (_ : Pa.size ≤ maxLen) (A3 : Option Addr) (n3 c3 : Nat) (more : List Fld) (f3 : SliceIn w w.heap.size 2 A3 n3 c3 (fldsV more)) :
    Calls Tryz.prog 5 #[.agg (msgC s (.slice A n c) (.slice B m e)).toArray, .agg #[.string Hu, .int .i64 pu, .string Pa], .slice A3 n3 c3] w fun e w' => e = .returned (.bool true) ∧ Below w.heap.size w w' := by
  obtain ⟨q0, q1⟩ := bounds_i64 wn
  have AW : ∀ W, Below w.heap.size w W → Calls Tryz.prog 8 #[] W fun e w' => e = .returned (.bool true) ∧ Below W.heap.size W w' := fun W hW => awake23_any W (shaped_below hsh hW)
  have h63 : m ≤ 9223372036854775807 := by have := fB.2.1; have := fB.2.2.1; simp only [maxLen] at this; omega
  have SH1 := fun (W : World) (hW : Below w.heap.size w W) => short_any A B n m c e L W ((fA.below hW).more hW.size) h63
  have SH2 := fun (W : World) (hW : Below w.heap.size w W) => short_any A3 none n3 0 c3 0 more W ((f3.below hW).more hW.size) (by decide)
  have hC := msgC_right s A B n c m e
  have hLn := fld_count fA
  have hL3 := fld_count f3
  have hXm : X.length = m := by have := fB.1; rw [bytesV_length] at this; omega
  have e0 := size_mk s.method
  by_cases hfar : shortM L m = false ∨ shortM more 0 = false ∨ 100 < (⟨s.method.toArray⟩ : ByteArray).size ∨ 300 < Hu.size ∨ 2000 < Pa.size
  · exact oasks_far _ hC _ A B n m c e rfl rfl rfl Hu Pa pu A3 n3 c3 (shortM L m) (shortM more 0) w hfar AW SH1 SH2
  · have hs1 : shortM L m = true := by cases h : shortM L m with | true => rfl | false => exact absurd (Or.inl h) hfar
    have hs2 : shortM more 0 = true := by cases h : shortM more 0 with | true => rfl | false => exact absurd (Or.inr (Or.inl h)) hfar
    have hs3 : (⟨s.method.toArray⟩ : ByteArray).size ≤ 100 ∧ Hu.size ≤ 300 ∧ Pa.size ≤ 2000 := by
      refine ⟨?_, ?_, ?_⟩ <;> (rw [← Nat.not_lt]; intro h; exact hfar (by simp [h]))
    obtain ⟨s2, s3, s4⟩ := hs3
    rw [hs1] at SH1
    rw [hs2] at SH2
    have KA := shortM_is hs1
    have K3 := shortM_is hs2
    refine oasks_good _ hC ⟨s.method.toArray⟩ A B n m c e rfl rfl rfl Hu Pa pu A3 n3 c3 L more (askM s.method Hu.data.toList pu Pa.data.toList L more X) w fA s2 s3 s4 (by have := KA.l; omega) ?_ AW SH1 SH2
      (fun W hW => ask_any _ hC ⟨s.method.toArray⟩ A B n m c e rfl rfl rfl L X Hu Pa pu A3 n3 c3 more W ((fA.below hW).more hW.size) ((fB.below hW).more hW.size) ((f3.below hW).more hW.size) KA K3 s3 q0 q1)
      (fun W hW => rask_any _ ⟨s.method.toArray⟩ A B n m c e rfl rfl rfl L X Hu Pa pu A3 n3 c3 more W ((fA.below hW).more hW.size) ((fB.below hW).more hW.size) ((f3.below hW).more hW.size) KA K3 s3 q0 q1)
    have h1 := rest_length L more
    have h2 := KA.l
    have h3 := K3.l
    show (askF Hu.data.toList pu L more X).length ≤ 1000000
    unfold askF
    split <;> simp only [List.length_append, List.length_cons, List.length_nil] <;> omega
end Go.Proofs.YtniiadhhefgmcaaGreatDoor
