/- Layer 8's laws: MessageTwo, walked. Condition: the world's shape. Printed by mklaw08b.py. -/
import Derived.Test.YteocdpkenlkmbaaGreatDoorPb
import Derived.Test.YteocdpkenlkmbaaGreatDoorPr
import Derived.Test.YteocdpkenlkmbaaGreatDoorSm
namespace Go.Proofs.YteocdpkenlkmbaaGreatDoor
open Go.RowKit IH
set_option maxRecDepth 100000
set_option maxHeartbeats 32000000 in
theorem mt_far1 (C D : List Value) (hC : RightC C) (hD : RightC D) (sa sb : Int) (ha : C[2]? = some (.int .i64 sa)) (hb : D[2]? = some (.int .i64 sb)) (M : ByteArray) (w : World)
    (AW : ∀ W, Below w.heap.size w W → Calls Tryz.prog 21 #[] W fun e w' => e = .returned (.bool true) ∧ Below W.heap.size W w')
    (SA : ∀ W, Below w.heap.size w W → Calls Tryz.prog 28 #[.agg C.toArray, .string M] W fun e w' => e = .returned (.bool false) ∧ Below W.heap.size W w') :
    Calls Tryz.prog 6 #[.agg C.toArray, .agg D.toArray, .string M] w fun e w' => e = .returned (.bool true) ∧ Below w.heap.size w w' := by
  have HMi : Hid ((Tryz.prog.info? 49).map (·.size) = some 7) := Lib.hid (by kernel_rfl)
  obtain ⟨w1, hw1⟩ : ∃ W : World, w.alloc (.cells C.toArray 49) = W := ⟨_, rfl⟩
  obtain ⟨w2, hw2⟩ : ∃ W : World, w1.alloc (.cells D.toArray 49) = W := ⟨_, rfl⟩
  have B1 : Below w.heap.size w w1 := by rw [← hw1]; exact (Below.refl _ _).alloc (Nat.le_refl _) _
  have B2 : Hid (Below w.heap.size w w2) := Lib.hid (below_step B1 (by rw [← hw2]; exact (Below.refl _ _).alloc (Nat.le_refl _) _))
  have Ra1 : RowAt w1 w.heap.size 49 C := by rw [← hw1]; exact RowAt.new w 49 C
  have Ra : Hid (RowAt w2 w.heap.size 49 C) := Lib.hid (by rw [← hw2]; exact Ra1.alloc _)
  have Rb : Hid (RowAt w2 w1.heap.size 49 D) := Lib.hid (by rw [← hw2]; exact RowAt.new w1 49 D)
  have HCi : Hid ((Tryz.prog.info? 49).map (·.size) = some C.length) := Lib.hid (by rw [hC.1]; exact HMi.out)
  have HDi : Hid ((Tryz.prog.info? 49).map (·.size) = some D.length) := Lib.hid (by rw [hD.1]; exact HMi.out)
  have a2 := Ra.out.cell (j := 2) ha
  have b2 := Rb.out.cell (j := 2) hb
  have HcA := Lib.hid ha
  have HcB := Lib.hid hb
  have tokA : Hid True := Lib.hid trivial
  clear B1 Ra1 hC hD ha hb
  replace AW := Lib.hid AW
  replace SA := Lib.hid SA
  go_enter Tryz.func6, Tryz.ntmps6
  go_wp2_with (first
    | (have _t := tokA; go_at_call 21; (with_reducible refine (AW.out _ B2.out).mono ?_); rintro e w3 ⟨rfl, hb3⟩; have B3 := Lib.hid (below_step B2.out hb3); have Ra3 := Lib.hid (Ra.out.below hb3 Ra.out.lt); have Rb3 := Lib.hid (Rb.out.below hb3 Rb.out.lt); have tokB : Hid True := Lib.hid trivial; clear hb3 tokA _t)
    | (have _t := tokB; refine wpList_load_g (by first | exact wanted_un rfl | exact wanted_yes rfl rfl rfl rfl | exact (wanted_is rfl rfl rfl rfl).trans (by simp; omega) | exact (wanted_is rfl rfl rfl rfl).trans (by simp)) 49 _ rfl w.heap.size 0 rfl C _ (rangeOf Ra3.out) Tryz.underlying49 rfl HCi.out ?_)
    | (have _t := tokB; go_at_call 28; (with_reducible refine (SA.out _ B3.out).mono ?_); rintro e w4 ⟨rfl, hb4⟩; have B4 := Lib.hid (below_step B3.out hb4); have Ra4 := Lib.hid (Ra3.out.below hb4 Ra3.out.lt); have Rb4 := Lib.hid (Rb3.out.below hb4 Rb3.out.lt); have tokC : Hid True := Lib.hid trivial; clear hb4 tokB _t)
    | (go_at_call 21; (with_reducible refine (AW.out _ B4.out).mono ?_); rintro e w9 ⟨rfl, hb9⟩; have B9 := Lib.hid (below_step B4.out hb9); clear hb9))
  go_ret
  exact ⟨rfl, B9.out⟩
set_option maxHeartbeats 32000000 in
theorem mt_far2 (C D : List Value) (hC : RightC C) (hD : RightC D) (sa sb : Int) (ha : C[2]? = some (.int .i64 sa)) (hb : D[2]? = some (.int .i64 sb)) (M : ByteArray) (w : World)
    (AW : ∀ W, Below w.heap.size w W → Calls Tryz.prog 21 #[] W fun e w' => e = .returned (.bool true) ∧ Below W.heap.size W w')
    (SA : ∀ W, Below w.heap.size w W → Calls Tryz.prog 28 #[.agg C.toArray, .string M] W fun e w' => e = .returned (.bool true) ∧ Below W.heap.size W w')
    (SB : ∀ W, Below w.heap.size w W → Calls Tryz.prog 28 #[.agg D.toArray, .string M] W fun e w' => e = .returned (.bool false) ∧ Below W.heap.size W w') :
    Calls Tryz.prog 6 #[.agg C.toArray, .agg D.toArray, .string M] w fun e w' => e = .returned (.bool true) ∧ Below w.heap.size w w' := by
  have HMi : Hid ((Tryz.prog.info? 49).map (·.size) = some 7) := Lib.hid (by kernel_rfl)
  obtain ⟨w1, hw1⟩ : ∃ W : World, w.alloc (.cells C.toArray 49) = W := ⟨_, rfl⟩
  obtain ⟨w2, hw2⟩ : ∃ W : World, w1.alloc (.cells D.toArray 49) = W := ⟨_, rfl⟩
  have B1 : Below w.heap.size w w1 := by rw [← hw1]; exact (Below.refl _ _).alloc (Nat.le_refl _) _
  have B2 : Hid (Below w.heap.size w w2) := Lib.hid (below_step B1 (by rw [← hw2]; exact (Below.refl _ _).alloc (Nat.le_refl _) _))
  have Ra1 : RowAt w1 w.heap.size 49 C := by rw [← hw1]; exact RowAt.new w 49 C
  have Ra : Hid (RowAt w2 w.heap.size 49 C) := Lib.hid (by rw [← hw2]; exact Ra1.alloc _)
  have Rb : Hid (RowAt w2 w1.heap.size 49 D) := Lib.hid (by rw [← hw2]; exact RowAt.new w1 49 D)
  have HCi : Hid ((Tryz.prog.info? 49).map (·.size) = some C.length) := Lib.hid (by rw [hC.1]; exact HMi.out)
  have HDi : Hid ((Tryz.prog.info? 49).map (·.size) = some D.length) := Lib.hid (by rw [hD.1]; exact HMi.out)
  have a2 := Ra.out.cell (j := 2) ha
  have b2 := Rb.out.cell (j := 2) hb
  have HcA := Lib.hid ha
  have HcB := Lib.hid hb
  have tokA : Hid True := Lib.hid trivial
  clear B1 Ra1 hC hD ha hb
  replace AW := Lib.hid AW
  replace SA := Lib.hid SA
  replace SB := Lib.hid SB
  go_enter Tryz.func6, Tryz.ntmps6
  go_wp2_with (first
    | (have _t := tokA; go_at_call 21; (with_reducible refine (AW.out _ B2.out).mono ?_); rintro e w3 ⟨rfl, hb3⟩; have B3 := Lib.hid (below_step B2.out hb3); have Ra3 := Lib.hid (Ra.out.below hb3 Ra.out.lt); have Rb3 := Lib.hid (Rb.out.below hb3 Rb.out.lt); have tokB : Hid True := Lib.hid trivial; clear hb3 tokA _t)
    | (have _t := tokB; refine wpList_load_g (by first | exact wanted_un rfl | exact wanted_yes rfl rfl rfl rfl | exact (wanted_is rfl rfl rfl rfl).trans (by simp; omega) | exact (wanted_is rfl rfl rfl rfl).trans (by simp)) 49 _ rfl w.heap.size 0 rfl C _ (rangeOf Ra3.out) Tryz.underlying49 rfl HCi.out ?_)
    | (have _t := tokB; go_at_call 28; (with_reducible refine (SA.out _ B3.out).mono ?_); rintro e w4 ⟨rfl, hb4⟩; have B4 := Lib.hid (below_step B3.out hb4); have Ra4 := Lib.hid (Ra3.out.below hb4 Ra3.out.lt); have Rb4 := Lib.hid (Rb3.out.below hb4 Rb3.out.lt); have tokC : Hid True := Lib.hid trivial; clear hb4 tokB _t)
    | (have _t := tokC; refine wpList_load_g (by first | exact wanted_un rfl | exact wanted_yes rfl rfl rfl rfl | exact (wanted_is rfl rfl rfl rfl).trans (by simp; omega) | exact (wanted_is rfl rfl rfl rfl).trans (by simp)) 49 _ rfl w1.heap.size 0 rfl D _ (rangeOf Rb4.out) Tryz.underlying49 rfl HDi.out ?_)
    | (have _t := tokC; go_at_call 28; (with_reducible refine (SB.out _ B4.out).mono ?_); rintro e w5 ⟨rfl, hb5⟩; have B5 := Lib.hid (below_step B4.out hb5); have Ra5 := Lib.hid (Ra4.out.below hb5 Ra4.out.lt); have Rb5 := Lib.hid (Rb4.out.below hb5 Rb4.out.lt); have a5 := Ra5.out.cell (j := 2) HcA.out; have b5 := Rb5.out.cell (j := 2) HcB.out; have tokD : Hid True := Lib.hid trivial; clear hb5 tokC _t)
    | (go_at_call 21; (with_reducible refine (AW.out _ B5.out).mono ?_); rintro e w9 ⟨rfl, hb9⟩; have B9 := Lib.hid (below_step B5.out hb9); clear hb9))
  go_ret
  exact ⟨rfl, B9.out⟩
set_option maxHeartbeats 32000000 in
theorem mt_far3 (C D : List Value) (hC : RightC C) (hD : RightC D) (sa sb : Int) (ha : C[2]? = some (.int .i64 sa)) (hb : D[2]? = some (.int .i64 sb)) (M : ByteArray) (w : World) (hst : (sa == 0) ≠ (sb == 0))
    (AW : ∀ W, Below w.heap.size w W → Calls Tryz.prog 21 #[] W fun e w' => e = .returned (.bool true) ∧ Below W.heap.size W w')
    (SA : ∀ W, Below w.heap.size w W → Calls Tryz.prog 28 #[.agg C.toArray, .string M] W fun e w' => e = .returned (.bool true) ∧ Below W.heap.size W w')
    (SB : ∀ W, Below w.heap.size w W → Calls Tryz.prog 28 #[.agg D.toArray, .string M] W fun e w' => e = .returned (.bool true) ∧ Below W.heap.size W w') :
    Calls Tryz.prog 6 #[.agg C.toArray, .agg D.toArray, .string M] w fun e w' => e = .returned (.bool true) ∧ Below w.heap.size w w' := by
  have HMi : Hid ((Tryz.prog.info? 49).map (·.size) = some 7) := Lib.hid (by kernel_rfl)
  obtain ⟨w1, hw1⟩ : ∃ W : World, w.alloc (.cells C.toArray 49) = W := ⟨_, rfl⟩
  obtain ⟨w2, hw2⟩ : ∃ W : World, w1.alloc (.cells D.toArray 49) = W := ⟨_, rfl⟩
  have B1 : Below w.heap.size w w1 := by rw [← hw1]; exact (Below.refl _ _).alloc (Nat.le_refl _) _
  have B2 : Hid (Below w.heap.size w w2) := Lib.hid (below_step B1 (by rw [← hw2]; exact (Below.refl _ _).alloc (Nat.le_refl _) _))
  have Ra1 : RowAt w1 w.heap.size 49 C := by rw [← hw1]; exact RowAt.new w 49 C
  have Ra : Hid (RowAt w2 w.heap.size 49 C) := Lib.hid (by rw [← hw2]; exact Ra1.alloc _)
  have Rb : Hid (RowAt w2 w1.heap.size 49 D) := Lib.hid (by rw [← hw2]; exact RowAt.new w1 49 D)
  have HCi : Hid ((Tryz.prog.info? 49).map (·.size) = some C.length) := Lib.hid (by rw [hC.1]; exact HMi.out)
  have HDi : Hid ((Tryz.prog.info? 49).map (·.size) = some D.length) := Lib.hid (by rw [hD.1]; exact HMi.out)
  have a2 := Ra.out.cell (j := 2) ha
  have b2 := Rb.out.cell (j := 2) hb
  have HcA := Lib.hid ha
  have HcB := Lib.hid hb
  have tokA : Hid True := Lib.hid trivial
  clear B1 Ra1 hC hD ha hb
  replace AW := Lib.hid AW
  replace SA := Lib.hid SA
  replace SB := Lib.hid SB
  obtain ⟨za, hza⟩ : ∃ x, (sa == 0) = x := ⟨_, rfl⟩
  obtain ⟨zb, hzb⟩ : ∃ x, (sb == 0) = x := ⟨_, rfl⟩
  rw [hza, hzb] at hst
  have hne : (za == zb) = false := by rw [beq_eq_false_iff_ne]; exact hst
  clear hst
  go_enter Tryz.func6, Tryz.ntmps6
  go_wp2_with (first
    | (have _t := tokA; go_at_call 21; (with_reducible refine (AW.out _ B2.out).mono ?_); rintro e w3 ⟨rfl, hb3⟩; have B3 := Lib.hid (below_step B2.out hb3); have Ra3 := Lib.hid (Ra.out.below hb3 Ra.out.lt); have Rb3 := Lib.hid (Rb.out.below hb3 Rb.out.lt); have tokB : Hid True := Lib.hid trivial; clear hb3 tokA _t)
    | (have _t := tokB; refine wpList_load_g (by first | exact wanted_un rfl | exact wanted_yes rfl rfl rfl rfl | exact (wanted_is rfl rfl rfl rfl).trans (by simp; omega) | exact (wanted_is rfl rfl rfl rfl).trans (by simp)) 49 _ rfl w.heap.size 0 rfl C _ (rangeOf Ra3.out) Tryz.underlying49 rfl HCi.out ?_)
    | (have _t := tokB; go_at_call 28; (with_reducible refine (SA.out _ B3.out).mono ?_); rintro e w4 ⟨rfl, hb4⟩; have B4 := Lib.hid (below_step B3.out hb4); have Ra4 := Lib.hid (Ra3.out.below hb4 Ra3.out.lt); have Rb4 := Lib.hid (Rb3.out.below hb4 Rb3.out.lt); have tokC : Hid True := Lib.hid trivial; clear hb4 tokB _t)
    | (have _t := tokC; refine wpList_load_g (by first | exact wanted_un rfl | exact wanted_yes rfl rfl rfl rfl | exact (wanted_is rfl rfl rfl rfl).trans (by simp; omega) | exact (wanted_is rfl rfl rfl rfl).trans (by simp)) 49 _ rfl w1.heap.size 0 rfl D _ (rangeOf Rb4.out) Tryz.underlying49 rfl HDi.out ?_)
    | (have _t := tokC; go_at_call 28; (with_reducible refine (SB.out _ B4.out).mono ?_); rintro e w5 ⟨rfl, hb5⟩; have B5 := Lib.hid (below_step B4.out hb5); have Ra5 := Lib.hid (Ra4.out.below hb5 Ra4.out.lt); have Rb5 := Lib.hid (Rb4.out.below hb5 Rb4.out.lt); have a5 := Ra5.out.cell (j := 2) HcA.out; have b5 := Rb5.out.cell (j := 2) HcB.out; have tokD : Hid True := Lib.hid trivial; clear hb5 tokC _t)
    | (go_at_call 21; (with_reducible refine (AW.out _ B5.out).mono ?_); rintro e w9 ⟨rfl, hb9⟩; have B9 := Lib.hid (below_step B5.out hb9); clear hb9))
  go_ret
  exact ⟨rfl, B9.out⟩
set_option maxHeartbeats 32000000 in
theorem mt_far4 (C D : List Value) (hC : RightC C) (hD : RightC D) (sa sb : Int) (ha : C[2]? = some (.int .i64 sa)) (hb : D[2]? = some (.int .i64 sb)) (M : ByteArray) (w : World) (hst : (sa == 0) = (sb == 0))
    (AW : ∀ W, Below w.heap.size w W → Calls Tryz.prog 21 #[] W fun e w' => e = .returned (.bool true) ∧ Below W.heap.size W w')
    (SA : ∀ W, Below w.heap.size w W → Calls Tryz.prog 28 #[.agg C.toArray, .string M] W fun e w' => e = .returned (.bool true) ∧ Below W.heap.size W w')
    (SB : ∀ W, Below w.heap.size w W → Calls Tryz.prog 28 #[.agg D.toArray, .string M] W fun e w' => e = .returned (.bool true) ∧ Below W.heap.size W w')
    (RA : ∀ W, Below w.heap.size w W → Calls Tryz.prog 29 #[.agg C.toArray, .string M] W fun e w' => e = .returned (.bool false) ∧ Below W.heap.size W w') :
    Calls Tryz.prog 6 #[.agg C.toArray, .agg D.toArray, .string M] w fun e w' => e = .returned (.bool true) ∧ Below w.heap.size w w' := by
  have HMi : Hid ((Tryz.prog.info? 49).map (·.size) = some 7) := Lib.hid (by kernel_rfl)
  obtain ⟨w1, hw1⟩ : ∃ W : World, w.alloc (.cells C.toArray 49) = W := ⟨_, rfl⟩
  obtain ⟨w2, hw2⟩ : ∃ W : World, w1.alloc (.cells D.toArray 49) = W := ⟨_, rfl⟩
  have B1 : Below w.heap.size w w1 := by rw [← hw1]; exact (Below.refl _ _).alloc (Nat.le_refl _) _
  have B2 : Hid (Below w.heap.size w w2) := Lib.hid (below_step B1 (by rw [← hw2]; exact (Below.refl _ _).alloc (Nat.le_refl _) _))
  have Ra1 : RowAt w1 w.heap.size 49 C := by rw [← hw1]; exact RowAt.new w 49 C
  have Ra : Hid (RowAt w2 w.heap.size 49 C) := Lib.hid (by rw [← hw2]; exact Ra1.alloc _)
  have Rb : Hid (RowAt w2 w1.heap.size 49 D) := Lib.hid (by rw [← hw2]; exact RowAt.new w1 49 D)
  have HCi : Hid ((Tryz.prog.info? 49).map (·.size) = some C.length) := Lib.hid (by rw [hC.1]; exact HMi.out)
  have HDi : Hid ((Tryz.prog.info? 49).map (·.size) = some D.length) := Lib.hid (by rw [hD.1]; exact HMi.out)
  have a2 := Ra.out.cell (j := 2) ha
  have b2 := Rb.out.cell (j := 2) hb
  have HcA := Lib.hid ha
  have HcB := Lib.hid hb
  have tokA : Hid True := Lib.hid trivial
  clear B1 Ra1 hC hD ha hb
  replace AW := Lib.hid AW
  replace SA := Lib.hid SA
  replace SB := Lib.hid SB
  replace RA := Lib.hid RA
  obtain ⟨za, hza⟩ : ∃ x, (sa == 0) = x := ⟨_, rfl⟩
  obtain ⟨zb, hzb⟩ : ∃ x, (sb == 0) = x := ⟨_, rfl⟩
  rw [hza, hzb] at hst
  have hne : (za == zb) = true := by rw [beq_iff_eq]; exact hst
  clear hst
  go_enter Tryz.func6, Tryz.ntmps6
  go_wp2_with (first
    | (have _t := tokA; go_at_call 21; (with_reducible refine (AW.out _ B2.out).mono ?_); rintro e w3 ⟨rfl, hb3⟩; have B3 := Lib.hid (below_step B2.out hb3); have Ra3 := Lib.hid (Ra.out.below hb3 Ra.out.lt); have Rb3 := Lib.hid (Rb.out.below hb3 Rb.out.lt); have tokB : Hid True := Lib.hid trivial; clear hb3 tokA _t)
    | (have _t := tokB; refine wpList_load_g (by first | exact wanted_un rfl | exact wanted_yes rfl rfl rfl rfl | exact (wanted_is rfl rfl rfl rfl).trans (by simp; omega) | exact (wanted_is rfl rfl rfl rfl).trans (by simp)) 49 _ rfl w.heap.size 0 rfl C _ (rangeOf Ra3.out) Tryz.underlying49 rfl HCi.out ?_)
    | (have _t := tokB; go_at_call 28; (with_reducible refine (SA.out _ B3.out).mono ?_); rintro e w4 ⟨rfl, hb4⟩; have B4 := Lib.hid (below_step B3.out hb4); have Ra4 := Lib.hid (Ra3.out.below hb4 Ra3.out.lt); have Rb4 := Lib.hid (Rb3.out.below hb4 Rb3.out.lt); have tokC : Hid True := Lib.hid trivial; clear hb4 tokB _t)
    | (have _t := tokC; refine wpList_load_g (by first | exact wanted_un rfl | exact wanted_yes rfl rfl rfl rfl | exact (wanted_is rfl rfl rfl rfl).trans (by simp; omega) | exact (wanted_is rfl rfl rfl rfl).trans (by simp)) 49 _ rfl w1.heap.size 0 rfl D _ (rangeOf Rb4.out) Tryz.underlying49 rfl HDi.out ?_)
    | (have _t := tokC; go_at_call 28; (with_reducible refine (SB.out _ B4.out).mono ?_); rintro e w5 ⟨rfl, hb5⟩; have B5 := Lib.hid (below_step B4.out hb5); have Ra5 := Lib.hid (Ra4.out.below hb5 Ra4.out.lt); have Rb5 := Lib.hid (Rb4.out.below hb5 Rb4.out.lt); have a5 := Ra5.out.cell (j := 2) HcA.out; have b5 := Rb5.out.cell (j := 2) HcB.out; have tokD : Hid True := Lib.hid trivial; clear hb5 tokC _t)
    | (have _t := tokD; refine wpList_load_g (by first | exact wanted_un rfl | exact wanted_yes rfl rfl rfl rfl | exact (wanted_is rfl rfl rfl rfl).trans (by simp; omega) | exact (wanted_is rfl rfl rfl rfl).trans (by simp)) 49 _ rfl w.heap.size 0 rfl C _ (rangeOf Ra5.out) Tryz.underlying49 rfl HCi.out ?_)
    | (have _t := tokD; go_at_call 29; (with_reducible refine (RA.out _ B5.out).mono ?_); rintro e w6 ⟨rfl, hb6⟩; have B6 := Lib.hid (below_step B5.out hb6); have Ra6 := Lib.hid (Ra5.out.below hb6 Ra5.out.lt); have Rb6 := Lib.hid (Rb5.out.below hb6 Rb5.out.lt); have tokE : Hid True := Lib.hid trivial; clear hb6 tokD _t)
    | (go_at_call 21; (with_reducible refine (AW.out _ B6.out).mono ?_); rintro e w9 ⟨rfl, hb9⟩; have B9 := Lib.hid (below_step B6.out hb9); clear hb9))
  go_ret
  exact ⟨rfl, B9.out⟩
set_option maxHeartbeats 32000000 in
theorem mt_far5 (C D : List Value) (hC : RightC C) (hD : RightC D) (sa sb : Int) (ha : C[2]? = some (.int .i64 sa)) (hb : D[2]? = some (.int .i64 sb)) (M : ByteArray) (w : World) (hst : (sa == 0) = (sb == 0))
    (AW : ∀ W, Below w.heap.size w W → Calls Tryz.prog 21 #[] W fun e w' => e = .returned (.bool true) ∧ Below W.heap.size W w')
    (SA : ∀ W, Below w.heap.size w W → Calls Tryz.prog 28 #[.agg C.toArray, .string M] W fun e w' => e = .returned (.bool true) ∧ Below W.heap.size W w')
    (SB : ∀ W, Below w.heap.size w W → Calls Tryz.prog 28 #[.agg D.toArray, .string M] W fun e w' => e = .returned (.bool true) ∧ Below W.heap.size W w')
    (RA : ∀ W, Below w.heap.size w W → Calls Tryz.prog 29 #[.agg C.toArray, .string M] W fun e w' => e = .returned (.bool true) ∧ Below W.heap.size W w')
    (RB : ∀ W, Below w.heap.size w W → Calls Tryz.prog 29 #[.agg D.toArray, .string M] W fun e w' => e = .returned (.bool false) ∧ Below W.heap.size W w') :
    Calls Tryz.prog 6 #[.agg C.toArray, .agg D.toArray, .string M] w fun e w' => e = .returned (.bool true) ∧ Below w.heap.size w w' := by
  have HMi : Hid ((Tryz.prog.info? 49).map (·.size) = some 7) := Lib.hid (by kernel_rfl)
  obtain ⟨w1, hw1⟩ : ∃ W : World, w.alloc (.cells C.toArray 49) = W := ⟨_, rfl⟩
  obtain ⟨w2, hw2⟩ : ∃ W : World, w1.alloc (.cells D.toArray 49) = W := ⟨_, rfl⟩
  have B1 : Below w.heap.size w w1 := by rw [← hw1]; exact (Below.refl _ _).alloc (Nat.le_refl _) _
  have B2 : Hid (Below w.heap.size w w2) := Lib.hid (below_step B1 (by rw [← hw2]; exact (Below.refl _ _).alloc (Nat.le_refl _) _))
  have Ra1 : RowAt w1 w.heap.size 49 C := by rw [← hw1]; exact RowAt.new w 49 C
  have Ra : Hid (RowAt w2 w.heap.size 49 C) := Lib.hid (by rw [← hw2]; exact Ra1.alloc _)
  have Rb : Hid (RowAt w2 w1.heap.size 49 D) := Lib.hid (by rw [← hw2]; exact RowAt.new w1 49 D)
  have HCi : Hid ((Tryz.prog.info? 49).map (·.size) = some C.length) := Lib.hid (by rw [hC.1]; exact HMi.out)
  have HDi : Hid ((Tryz.prog.info? 49).map (·.size) = some D.length) := Lib.hid (by rw [hD.1]; exact HMi.out)
  have a2 := Ra.out.cell (j := 2) ha
  have b2 := Rb.out.cell (j := 2) hb
  have HcA := Lib.hid ha
  have HcB := Lib.hid hb
  have tokA : Hid True := Lib.hid trivial
  clear B1 Ra1 hC hD ha hb
  replace AW := Lib.hid AW
  replace SA := Lib.hid SA
  replace SB := Lib.hid SB
  replace RA := Lib.hid RA
  replace RB := Lib.hid RB
  obtain ⟨za, hza⟩ : ∃ x, (sa == 0) = x := ⟨_, rfl⟩
  obtain ⟨zb, hzb⟩ : ∃ x, (sb == 0) = x := ⟨_, rfl⟩
  rw [hza, hzb] at hst
  have hne : (za == zb) = true := by rw [beq_iff_eq]; exact hst
  clear hst
  go_enter Tryz.func6, Tryz.ntmps6
  go_wp2_with (first
    | (have _t := tokA; go_at_call 21; (with_reducible refine (AW.out _ B2.out).mono ?_); rintro e w3 ⟨rfl, hb3⟩; have B3 := Lib.hid (below_step B2.out hb3); have Ra3 := Lib.hid (Ra.out.below hb3 Ra.out.lt); have Rb3 := Lib.hid (Rb.out.below hb3 Rb.out.lt); have tokB : Hid True := Lib.hid trivial; clear hb3 tokA _t)
    | (have _t := tokB; refine wpList_load_g (by first | exact wanted_un rfl | exact wanted_yes rfl rfl rfl rfl | exact (wanted_is rfl rfl rfl rfl).trans (by simp; omega) | exact (wanted_is rfl rfl rfl rfl).trans (by simp)) 49 _ rfl w.heap.size 0 rfl C _ (rangeOf Ra3.out) Tryz.underlying49 rfl HCi.out ?_)
    | (have _t := tokB; go_at_call 28; (with_reducible refine (SA.out _ B3.out).mono ?_); rintro e w4 ⟨rfl, hb4⟩; have B4 := Lib.hid (below_step B3.out hb4); have Ra4 := Lib.hid (Ra3.out.below hb4 Ra3.out.lt); have Rb4 := Lib.hid (Rb3.out.below hb4 Rb3.out.lt); have tokC : Hid True := Lib.hid trivial; clear hb4 tokB _t)
    | (have _t := tokC; refine wpList_load_g (by first | exact wanted_un rfl | exact wanted_yes rfl rfl rfl rfl | exact (wanted_is rfl rfl rfl rfl).trans (by simp; omega) | exact (wanted_is rfl rfl rfl rfl).trans (by simp)) 49 _ rfl w1.heap.size 0 rfl D _ (rangeOf Rb4.out) Tryz.underlying49 rfl HDi.out ?_)
    | (have _t := tokC; go_at_call 28; (with_reducible refine (SB.out _ B4.out).mono ?_); rintro e w5 ⟨rfl, hb5⟩; have B5 := Lib.hid (below_step B4.out hb5); have Ra5 := Lib.hid (Ra4.out.below hb5 Ra4.out.lt); have Rb5 := Lib.hid (Rb4.out.below hb5 Rb4.out.lt); have a5 := Ra5.out.cell (j := 2) HcA.out; have b5 := Rb5.out.cell (j := 2) HcB.out; have tokD : Hid True := Lib.hid trivial; clear hb5 tokC _t)
    | (have _t := tokD; refine wpList_load_g (by first | exact wanted_un rfl | exact wanted_yes rfl rfl rfl rfl | exact (wanted_is rfl rfl rfl rfl).trans (by simp; omega) | exact (wanted_is rfl rfl rfl rfl).trans (by simp)) 49 _ rfl w.heap.size 0 rfl C _ (rangeOf Ra5.out) Tryz.underlying49 rfl HCi.out ?_)
    | (have _t := tokD; go_at_call 29; (with_reducible refine (RA.out _ B5.out).mono ?_); rintro e w6 ⟨rfl, hb6⟩; have B6 := Lib.hid (below_step B5.out hb6); have Ra6 := Lib.hid (Ra5.out.below hb6 Ra5.out.lt); have Rb6 := Lib.hid (Rb5.out.below hb6 Rb5.out.lt); have tokE : Hid True := Lib.hid trivial; clear hb6 tokD _t)
    | (have _t := tokE; refine wpList_load_g (by first | exact wanted_un rfl | exact wanted_yes rfl rfl rfl rfl | exact (wanted_is rfl rfl rfl rfl).trans (by simp; omega) | exact (wanted_is rfl rfl rfl rfl).trans (by simp)) 49 _ rfl w1.heap.size 0 rfl D _ (rangeOf Rb6.out) Tryz.underlying49 rfl HDi.out ?_)
    | (have _t := tokE; go_at_call 29; (with_reducible refine (RB.out _ B6.out).mono ?_); rintro e w7 ⟨rfl, hb7⟩; have B7 := Lib.hid (below_step B6.out hb7); have Ra7 := Lib.hid (Ra6.out.below hb7 Ra6.out.lt); have Rb7 := Lib.hid (Rb6.out.below hb7 Rb6.out.lt); have tokF : Hid True := Lib.hid trivial; clear hb7 tokE _t)
    | (go_at_call 21; (with_reducible refine (AW.out _ B7.out).mono ?_); rintro e w9 ⟨rfl, hb9⟩; have B9 := Lib.hid (below_step B7.out hb9); clear hb9))
  go_ret
  exact ⟨rfl, B9.out⟩
end Go.Proofs.YteocdpkenlkmbaaGreatDoor
