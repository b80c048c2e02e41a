/- Layer 8's laws: MessageBare, walked. Condition: the world's shape. Printed by mklaw08e.py. -/
import Derived.Test.YteocdpkenlkmbaaGreatDoorLaw08b
import Derived.Test.YteocdpkenlkmbaaGreatDoorPb
import Derived.Test.YteocdpkenlkmbaaGreatDoorAppC
import Derived.Test.YteocdpkenlkmbaaGreatDoorChn1
namespace Go.Proofs.YteocdpkenlkmbaaGreatDoor
open Go.RowKit IH
set_option maxRecDepth 100000
set_option maxHeartbeats 32000000 in
theorem mb_far1 (C : List Value) (hC : RightC C) (st : Int) (ha : C[2]? = some (.int .i64 st)) (A : Option Addr) (n c : Nat) (w : World)
    (AW : ∀ W, Below w.heap.size w W → Calls Tryz.prog 21 #[] W fun e w' => e = .returned (.bool true) ∧ Below W.heap.size W w')
    (SA : ∀ W, Below w.heap.size w W → Calls Tryz.prog 28 #[.agg C.toArray, .string ⟨#[72, 69, 65, 68]⟩] W fun e w' => e = .returned (.bool false) ∧ Below W.heap.size W w') :
    Calls Tryz.prog 8 #[.agg C.toArray, .slice A n c] w fun e w' => e = .returned (.bool true) ∧ Below w.heap.size w w' := by
  have HMi : Hid ((Tryz.prog.info? 49).map (·.size) = some 7) := Lib.hid (by kernel_rfl)
  obtain ⟨w1, hw1⟩ : ∃ W : World, w.alloc (.cells C.toArray 49) = W := ⟨_, rfl⟩
  have B1 : Hid (Below w.heap.size w w1) := Lib.hid (by rw [← hw1]; exact (Below.refl _ _).alloc (Nat.le_refl _) _)
  have Ra1 : Hid (RowAt w1 w.heap.size 49 C) := Lib.hid (by rw [← hw1]; exact RowAt.new w 49 C)
  have HCi : Hid ((Tryz.prog.info? 49).map (·.size) = some C.length) := Lib.hid (by rw [hC.1]; exact HMi.out)
  have C7 := Lib.hid hC.1
  have HcA := Lib.hid ha
  have tokA : Hid True := Lib.hid trivial
  clear hC ha
  replace AW := Lib.hid AW
  replace SA := Lib.hid SA
  go_enter Tryz.func8, Tryz.ntmps8
  go_wp2_with (first
    | (have _t := tokA; go_at_call 21; (with_reducible refine (AW.out _ B1.out).mono ?_); rintro e w2 ⟨rfl, hb2⟩; have B2 := Lib.hid (below_step B1.out hb2); have Ra2 := Lib.hid (Ra1.out.below hb2 Ra1.out.lt); have tokB : Hid True := Lib.hid trivial; clear hb2 tokA _t)
    | (have _t := tokB; refine wpList_load_g (by first | exact wanted_un rfl | exact wanted_yes rfl rfl rfl rfl | exact (wanted_is rfl rfl rfl rfl).trans (by simp; omega) | exact (wanted_is rfl rfl rfl rfl).trans (by simp)) 49 _ rfl w.heap.size 0 rfl C _ (rangeOf Ra2.out) Tryz.underlying49 rfl HCi.out ?_)
    | (have _t := tokB; go_at_call 28; (with_reducible refine (SA.out _ B2.out).mono ?_); rintro e w3 ⟨rfl, hb3⟩; have B3 := Lib.hid (below_step B2.out hb3); have Ra3 := Lib.hid (Ra2.out.below hb3 Ra2.out.lt); have a3 := Ra3.out.cell (j := 2) HcA.out; have f3 := Ra3.out.frozen (j := 6) (by have := C7.out; omega); have d3 := Ra3.out.cell (j := 6) (List.getElem?_eq_getElem (by have := C7.out; omega)); have tokC : Hid True := Lib.hid trivial; clear hb3 tokB _t)
    | (go_at_call 21; (with_reducible refine (AW.out _ B3.out).mono ?_); rintro e w9 ⟨rfl, hb9⟩; have B9 := Lib.hid (below_step B3.out hb9); clear hb9))
  go_ret
  exact ⟨rfl, B9.out⟩
set_option maxHeartbeats 32000000 in
theorem mb_far2 (C : List Value) (hC : RightC C) (st : Int) (ha : C[2]? = some (.int .i64 st)) (A : Option Addr) (n c : Nat) (w : World) (hn : 300 < n)
    (AW : ∀ W, Below w.heap.size w W → Calls Tryz.prog 21 #[] W fun e w' => e = .returned (.bool true) ∧ Below W.heap.size W w')
    (SA : ∀ W, Below w.heap.size w W → Calls Tryz.prog 28 #[.agg C.toArray, .string ⟨#[72, 69, 65, 68]⟩] W fun e w' => e = .returned (.bool true) ∧ Below W.heap.size W w') :
    Calls Tryz.prog 8 #[.agg C.toArray, .slice A n c] w fun e w' => e = .returned (.bool true) ∧ Below w.heap.size w w' := by
  have HMi : Hid ((Tryz.prog.info? 49).map (·.size) = some 7) := Lib.hid (by kernel_rfl)
  obtain ⟨w1, hw1⟩ : ∃ W : World, w.alloc (.cells C.toArray 49) = W := ⟨_, rfl⟩
  have B1 : Hid (Below w.heap.size w w1) := Lib.hid (by rw [← hw1]; exact (Below.refl _ _).alloc (Nat.le_refl _) _)
  have Ra1 : Hid (RowAt w1 w.heap.size 49 C) := Lib.hid (by rw [← hw1]; exact RowAt.new w 49 C)
  have HCi : Hid ((Tryz.prog.info? 49).map (·.size) = some C.length) := Lib.hid (by rw [hC.1]; exact HMi.out)
  have C7 := Lib.hid hC.1
  have HcA := Lib.hid ha
  have tokA : Hid True := Lib.hid trivial
  clear hC ha
  replace AW := Lib.hid AW
  replace SA := Lib.hid SA
  have hI : (300 : Int) < (n : Int) := by omega
  go_enter Tryz.func8, Tryz.ntmps8
  go_wp2_with (first
    | (have _t := tokA; go_at_call 21; (with_reducible refine (AW.out _ B1.out).mono ?_); rintro e w2 ⟨rfl, hb2⟩; have B2 := Lib.hid (below_step B1.out hb2); have Ra2 := Lib.hid (Ra1.out.below hb2 Ra1.out.lt); have tokB : Hid True := Lib.hid trivial; clear hb2 tokA _t)
    | (have _t := tokB; refine wpList_load_g (by first | exact wanted_un rfl | exact wanted_yes rfl rfl rfl rfl | exact (wanted_is rfl rfl rfl rfl).trans (by simp; omega) | exact (wanted_is rfl rfl rfl rfl).trans (by simp)) 49 _ rfl w.heap.size 0 rfl C _ (rangeOf Ra2.out) Tryz.underlying49 rfl HCi.out ?_)
    | (have _t := tokB; go_at_call 28; (with_reducible refine (SA.out _ B2.out).mono ?_); rintro e w3 ⟨rfl, hb3⟩; have B3 := Lib.hid (below_step B2.out hb3); have Ra3 := Lib.hid (Ra2.out.below hb3 Ra2.out.lt); have a3 := Ra3.out.cell (j := 2) HcA.out; have f3 := Ra3.out.frozen (j := 6) (by have := C7.out; omega); have d3 := Ra3.out.cell (j := 6) (List.getElem?_eq_getElem (by have := C7.out; omega)); have tokC : Hid True := Lib.hid trivial; clear hb3 tokB _t)
    | (go_at_call 21; (with_reducible refine (AW.out _ B3.out).mono ?_); rintro e w9 ⟨rfl, hb9⟩; have B9 := Lib.hid (below_step B3.out hb9); clear hb9))
  go_ret
  exact ⟨rfl, B9.out⟩
set_option maxHeartbeats 32000000 in
theorem mb_far3 (C : List Value) (hC : RightC C) (st : Int) (ha : C[2]? = some (.int .i64 st)) (A : Option Addr) (n c : Nat) (w : World) (hn : n ≤ 300) (hst : st = 0)
    (AW : ∀ W, Below w.heap.size w W → Calls Tryz.prog 21 #[] W fun e w' => e = .returned (.bool true) ∧ Below W.heap.size W w')
    (SA : ∀ W, Below w.heap.size w W → Calls Tryz.prog 28 #[.agg C.toArray, .string ⟨#[72, 69, 65, 68]⟩] W fun e w' => e = .returned (.bool true) ∧ Below W.heap.size W w') :
    Calls Tryz.prog 8 #[.agg C.toArray, .slice A n c] w fun e w' => e = .returned (.bool true) ∧ Below w.heap.size w w' := by
  have HMi : Hid ((Tryz.prog.info? 49).map (·.size) = some 7) := Lib.hid (by kernel_rfl)
  obtain ⟨w1, hw1⟩ : ∃ W : World, w.alloc (.cells C.toArray 49) = W := ⟨_, rfl⟩
  have B1 : Hid (Below w.heap.size w w1) := Lib.hid (by rw [← hw1]; exact (Below.refl _ _).alloc (Nat.le_refl _) _)
  have Ra1 : Hid (RowAt w1 w.heap.size 49 C) := Lib.hid (by rw [← hw1]; exact RowAt.new w 49 C)
  have HCi : Hid ((Tryz.prog.info? 49).map (·.size) = some C.length) := Lib.hid (by rw [hC.1]; exact HMi.out)
  have C7 := Lib.hid hC.1
  have HcA := Lib.hid ha
  have tokA : Hid True := Lib.hid trivial
  clear hC ha
  replace AW := Lib.hid AW
  replace SA := Lib.hid SA
  have hI : ¬ (300 : Int) < (n : Int) := by omega
  subst hst
  go_enter Tryz.func8, Tryz.ntmps8
  go_wp2_with (first
    | (have _t := tokA; go_at_call 21; (with_reducible refine (AW.out _ B1.out).mono ?_); rintro e w2 ⟨rfl, hb2⟩; have B2 := Lib.hid (below_step B1.out hb2); have Ra2 := Lib.hid (Ra1.out.below hb2 Ra1.out.lt); have tokB : Hid True := Lib.hid trivial; clear hb2 tokA _t)
    | (have _t := tokB; refine wpList_load_g (by first | exact wanted_un rfl | exact wanted_yes rfl rfl rfl rfl | exact (wanted_is rfl rfl rfl rfl).trans (by simp; omega) | exact (wanted_is rfl rfl rfl rfl).trans (by simp)) 49 _ rfl w.heap.size 0 rfl C _ (rangeOf Ra2.out) Tryz.underlying49 rfl HCi.out ?_)
    | (have _t := tokB; go_at_call 28; (with_reducible refine (SA.out _ B2.out).mono ?_); rintro e w3 ⟨rfl, hb3⟩; have B3 := Lib.hid (below_step B2.out hb3); have Ra3 := Lib.hid (Ra2.out.below hb3 Ra2.out.lt); have a3 := Ra3.out.cell (j := 2) HcA.out; have f3 := Ra3.out.frozen (j := 6) (by have := C7.out; omega); have d3 := Ra3.out.cell (j := 6) (List.getElem?_eq_getElem (by have := C7.out; omega)); have tokC : Hid True := Lib.hid trivial; clear hb3 tokB _t)
    | (go_at_call 21; (with_reducible refine (AW.out _ B3.out).mono ?_); rintro e w9 ⟨rfl, hb9⟩; have B9 := Lib.hid (below_step B3.out hb9); clear hb9))
  go_ret
  exact ⟨rfl, B9.out⟩
set_option maxHeartbeats 32000000 in
theorem mb_wrong (C C' : List Value) (hC : RightC C) (st : Int) (ha : C[2]? = some (.int .i64 st)) (A : Option Addr) (n c : Nat) (w : World) (hset : C.set 6 (.slice none 0 0) = C') (hn : n ≤ 300) (hst : st ≠ 0)
    (AW : ∀ W, Below w.heap.size w W → Calls Tryz.prog 21 #[] W fun e w' => e = .returned (.bool true) ∧ Below W.heap.size W w')
    (SA : ∀ W, Below w.heap.size w W → Calls Tryz.prog 28 #[.agg C.toArray, .string ⟨#[72, 69, 65, 68]⟩] W fun e w' => e = .returned (.bool true) ∧ Below W.heap.size W w')
    (RA : ∀ W, Below w.heap.size w W → Calls Tryz.prog 29 #[.agg C'.toArray, .string ⟨#[72, 69, 65, 68]⟩] W fun e w' => e = .returned (.bool false) ∧ Below W.heap.size W w') :
    Calls Tryz.prog 8 #[.agg C.toArray, .slice A n c] w fun e w' => e = .returned (.bool true) ∧ Below w.heap.size w w' := by
  have HMi : Hid ((Tryz.prog.info? 49).map (·.size) = some 7) := Lib.hid (by kernel_rfl)
  obtain ⟨w1, hw1⟩ : ∃ W : World, w.alloc (.cells C.toArray 49) = W := ⟨_, rfl⟩
  have B1 : Hid (Below w.heap.size w w1) := Lib.hid (by rw [← hw1]; exact (Below.refl _ _).alloc (Nat.le_refl _) _)
  have Ra1 : Hid (RowAt w1 w.heap.size 49 C) := Lib.hid (by rw [← hw1]; exact RowAt.new w 49 C)
  have HCi : Hid ((Tryz.prog.info? 49).map (·.size) = some C.length) := Lib.hid (by rw [hC.1]; exact HMi.out)
  have C7 := Lib.hid hC.1
  have HcA := Lib.hid ha
  have tokA : Hid True := Lib.hid trivial
  clear hC ha
  have hCset := Lib.hid hset
  have C7' : Hid (C'.length = 7) := Lib.hid (by rw [← hset, List.length_set]; exact C7.out)
  have HCi' : Hid ((Tryz.prog.info? 49).map (·.size) = some C'.length) := Lib.hid (by rw [C7'.out]; exact HMi.out)
  have HcA' : Hid (C'[2]? = some (.int .i64 st)) := Lib.hid (by rw [← hset, List.getElem?_set_ne (by decide)]; exact HcA.out)
  clear hset
  replace AW := Lib.hid AW
  replace SA := Lib.hid SA
  replace RA := Lib.hid RA
  have hI : ¬ (300 : Int) < (n : Int) := by omega
  have hs0 : (st == 0) = false := by rw [beq_eq_false_iff_ne]; exact hst
  go_enter Tryz.func8, Tryz.ntmps8
  go_upto_region 3 with (first
    | (have _t := tokA; go_at_call 21; (with_reducible refine (AW.out _ B1.out).mono ?_); rintro e w2 ⟨rfl, hb2⟩; have B2 := Lib.hid (below_step B1.out hb2); have Ra2 := Lib.hid (Ra1.out.below hb2 Ra1.out.lt); have tokB : Hid True := Lib.hid trivial; clear hb2 tokA _t)
    | (have _t := tokB; refine wpList_load_g (by first | exact wanted_un rfl | exact wanted_yes rfl rfl rfl rfl | exact (wanted_is rfl rfl rfl rfl).trans (by simp; omega) | exact (wanted_is rfl rfl rfl rfl).trans (by simp)) 49 _ rfl w.heap.size 0 rfl C _ (rangeOf Ra2.out) Tryz.underlying49 rfl HCi.out ?_)
    | (have _t := tokB; go_at_call 28; (with_reducible refine (SA.out _ B2.out).mono ?_); rintro e w3 ⟨rfl, hb3⟩; have B3 := Lib.hid (below_step B2.out hb3); have Ra3 := Lib.hid (Ra2.out.below hb3 Ra2.out.lt); have a3 := Ra3.out.cell (j := 2) HcA.out; have f3 := Ra3.out.frozen (j := 6) (by have := C7.out; omega); have d3 := Ra3.out.cell (j := 6) (List.getElem?_eq_getElem (by have := C7.out; omega)); have tokC : Hid True := Lib.hid trivial; clear hb3 tokB _t))
  clear AW SA a3 HCi
  go_upto_region 4 with fail
  obtain ⟨w4, hw4⟩ : ∃ W : World, w3.setCell ⟨w.heap.size, 6, none⟩ (.slice none 0 0) = W := ⟨_, rfl⟩
  have Ra4 : Hid (RowAt w4 w.heap.size 49 C') := Lib.hid (by rw [← hw4, ← hCset.out]; exact Ra3.out.set_ (by have := C7.out; omega) _)
  have B4 : Hid (Below w.heap.size w w4) := Lib.hid (by rw [← hw4]; exact B3.out.setCell (Nat.le_refl _) _)
  rw [hw4]
  clear hw4 d3 f3 Ra3 HcA
  have tokA : Hid True := Lib.hid trivial
  go_wp2_with (first
    | (have _t := tokA; refine wpList_load_g (by first | exact wanted_un rfl | exact wanted_yes rfl rfl rfl rfl | exact (wanted_is rfl rfl rfl rfl).trans (by simp; omega) | exact (wanted_is rfl rfl rfl rfl).trans (by simp)) 49 _ rfl w.heap.size 0 rfl C' _ (rangeOf Ra4.out) Tryz.underlying49 rfl HCi'.out ?_)
    | (have _t := tokA; go_at_call 29; (with_reducible refine (RA.out _ B4.out).mono ?_); rintro e w5 ⟨rfl, hb5⟩; have B5 := Lib.hid (below_step B4.out hb5); have Ra5 := Lib.hid (Ra4.out.below hb5 Ra4.out.lt); have tokB : Hid True := Lib.hid trivial; clear hb5 tokA _t))
  go_ret
  exact ⟨rfl, B5.out⟩
set_option maxHeartbeats 32000000 in
theorem mb_good_bare (C C' : List Value) (hC : RightC C) (st : Int) (ha : C[2]? = some (.int .i64 st)) (A : Option Addr) (n c : Nat) (T : List UInt8) (w : World) (S : ByteArray) (G : List Value → World → Prop) (hset : C.set 6 (.slice none 0 0) = C') (hn : n ≤ 300) (hst : st ≠ 0) (hz : S.size ≤ 400000) (hin : SliceIn w w.heap.size 1 A n c (bytesV T)) (hbb : (decide (st < 200) || (st == 204 || st == 304)) = true)
    (AW : ∀ W, Below w.heap.size w W → Calls Tryz.prog 21 #[] W fun e w' => e = .returned (.bool true) ∧ Below W.heap.size W w')
    (SA : ∀ W, Below w.heap.size w W → Calls Tryz.prog 28 #[.agg C.toArray, .string ⟨#[72, 69, 65, 68]⟩] W fun e w' => e = .returned (.bool true) ∧ Below W.heap.size W w')
    (RA : ∀ W, Below w.heap.size w W → Calls Tryz.prog 29 #[.agg C'.toArray, .string ⟨#[72, 69, 65, 68]⟩] W fun e w' => e = .returned (.bool true) ∧ Below W.heap.size W w')
    (PA : ∀ W, Below w.heap.size w W → Calls Tryz.prog 30 #[.agg C'.toArray, .string ⟨#[72, 69, 65, 68]⟩] W fun e w' => e = .returned (.string S) ∧ Below W.heap.size W w')
    (U1 : ∀ W g cap, Below w.heap.size w W → g < W.heap.size → SliceIn W W.heap.size 1 (some ⟨g, 0, none⟩) (S.size + n) cap (bytesV S.data.toList ++ bytesV T) → Calls Tryz.prog 31 #[.slice (some ⟨g, 0, none⟩) (S.size + n) cap, .bool false, .string ⟨#[72, 69, 65, 68]⟩] W fun e w' => ∃ E, e = .returned (.tuple #[.agg E.toArray, .int .i64 S.size, .int .i64 0]) ∧ RightC E ∧ (∀ W', Fresh W.heap.size w' W' → G E W') ∧ Below W.heap.size W w')
    (U2 : ∀ W g cap, Below w.heap.size w W → g < W.heap.size → SliceIn W W.heap.size 1 (some ⟨g, 0, none⟩) (S.size + n) cap (bytesV S.data.toList ++ bytesV T) → Calls Tryz.prog 31 #[.slice (some ⟨g, 0, none⟩) (S.size + n) cap, .bool false, .string ⟨#[71, 69, 84]⟩] W fun e w' => ∃ E, e = .returned (.tuple #[.agg E.toArray, .int .i64 S.size, .int .i64 0]) ∧ RightC E ∧ (∀ W', Fresh W.heap.size w' W' → G E W') ∧ Below W.heap.size W w')
    (SM : ∀ W E, Below w.heap.size w W → G E W → Calls Tryz.prog 27 #[.agg E.toArray, .agg C'.toArray] W fun e w' => e = .returned (.bool true) ∧ Below W.heap.size W w')
    (GB : ∀ D W W', G D W → Below W.heap.size W W' → G D W') :
    Calls Tryz.prog 8 #[.agg C.toArray, .slice A n c] w fun e w' => e = .returned (.bool true) ∧ Below w.heap.size w w' := by
  have HMi : Hid ((Tryz.prog.info? 49).map (·.size) = some 7) := Lib.hid (by kernel_rfl)
  obtain ⟨w1, hw1⟩ : ∃ W : World, w.alloc (.cells C.toArray 49) = W := ⟨_, rfl⟩
  have B1 : Hid (Below w.heap.size w w1) := Lib.hid (by rw [← hw1]; exact (Below.refl _ _).alloc (Nat.le_refl _) _)
  have Ra1 : Hid (RowAt w1 w.heap.size 49 C) := Lib.hid (by rw [← hw1]; exact RowAt.new w 49 C)
  have HCi : Hid ((Tryz.prog.info? 49).map (·.size) = some C.length) := Lib.hid (by rw [hC.1]; exact HMi.out)
  have C7 := Lib.hid hC.1
  have HcA := Lib.hid ha
  have tokA : Hid True := Lib.hid trivial
  clear hC ha
  have hCset := Lib.hid hset
  have C7' : Hid (C'.length = 7) := Lib.hid (by rw [← hset, List.length_set]; exact C7.out)
  have HCi' : Hid ((Tryz.prog.info? 49).map (·.size) = some C'.length) := Lib.hid (by rw [C7'.out]; exact HMi.out)
  have HcA' : Hid (C'[2]? = some (.int .i64 st)) := Lib.hid (by rw [← hset, List.getElem?_set_ne (by decide)]; exact HcA.out)
  clear hset
  have GI : Hid (∀ E : List Value, RightC E → (Tryz.prog.info? 49).map (·.size) = some E.length) := Lib.hid (fun E h => by rw [h.1]; exact HMi.out)
  replace AW := Lib.hid AW
  replace SA := Lib.hid SA
  replace RA := Lib.hid RA
  replace PA := Lib.hid PA
  replace U1 := Lib.hid U1
  replace U2 := Lib.hid U2
  replace SM := Lib.hid SM
  replace GB := Lib.hid GB
  have hI : ¬ (300 : Int) < (n : Int) := by omega
  have hs0 : (st == 0) = false := by rw [beq_eq_false_iff_ne]; exact hst
  have Hz : Hid (S.size ≤ 400000 ∧ n ≤ 300) := Lib.hid ⟨hz, hn⟩
  have Hin := Lib.hid hin
  have HB := Lib.hid hbb
  clear hin hbb hz hn
  go_enter Tryz.func8, Tryz.ntmps8
  go_upto_region 3 with (first
    | (have _t := tokA; go_at_call 21; (with_reducible refine (AW.out _ B1.out).mono ?_); rintro e w2 ⟨rfl, hb2⟩; have B2 := Lib.hid (below_step B1.out hb2); have Ra2 := Lib.hid (Ra1.out.below hb2 Ra1.out.lt); have tokB : Hid True := Lib.hid trivial; clear hb2 tokA _t)
    | (have _t := tokB; refine wpList_load_g (by first | exact wanted_un rfl | exact wanted_yes rfl rfl rfl rfl | exact (wanted_is rfl rfl rfl rfl).trans (by simp; omega) | exact (wanted_is rfl rfl rfl rfl).trans (by simp)) 49 _ rfl w.heap.size 0 rfl C _ (rangeOf Ra2.out) Tryz.underlying49 rfl HCi.out ?_)
    | (have _t := tokB; go_at_call 28; (with_reducible refine (SA.out _ B2.out).mono ?_); rintro e w3 ⟨rfl, hb3⟩; have B3 := Lib.hid (below_step B2.out hb3); have Ra3 := Lib.hid (Ra2.out.below hb3 Ra2.out.lt); have a3 := Ra3.out.cell (j := 2) HcA.out; have f3 := Ra3.out.frozen (j := 6) (by have := C7.out; omega); have d3 := Ra3.out.cell (j := 6) (List.getElem?_eq_getElem (by have := C7.out; omega)); have tokC : Hid True := Lib.hid trivial; clear hb3 tokB _t))
  clear AW SA a3 HCi
  go_upto_region 4 with fail
  obtain ⟨w4, hw4⟩ : ∃ W : World, w3.setCell ⟨w.heap.size, 6, none⟩ (.slice none 0 0) = W := ⟨_, rfl⟩
  have Ra4 : Hid (RowAt w4 w.heap.size 49 C') := Lib.hid (by rw [← hw4, ← hCset.out]; exact Ra3.out.set_ (by have := C7.out; omega) _)
  have B4 : Hid (Below w.heap.size w w4) := Lib.hid (by rw [← hw4]; exact B3.out.setCell (Nat.le_refl _) _)
  rw [hw4]
  clear hw4 d3 f3 Ra3 HcA
  have tokA : Hid True := Lib.hid trivial
  go_upto_region 7 with (first
    | (have _t := tokA; refine wpList_load_g (by first | exact wanted_un rfl | exact wanted_yes rfl rfl rfl rfl | exact (wanted_is rfl rfl rfl rfl).trans (by simp; omega) | exact (wanted_is rfl rfl rfl rfl).trans (by simp)) 49 _ rfl w.heap.size 0 rfl C' _ (rangeOf Ra4.out) Tryz.underlying49 rfl HCi'.out ?_)
    | (have _t := tokA; go_at_call 29; (with_reducible refine (RA.out _ B4.out).mono ?_); rintro e w5 ⟨rfl, hb5⟩; have B5 := Lib.hid (below_step B4.out hb5); have Ra5 := Lib.hid (Ra4.out.below hb5 Ra4.out.lt); have tokB : Hid True := Lib.hid trivial; clear hb5 tokA _t)
    | (have _t := tokB; refine wpList_load_g (by first | exact wanted_un rfl | exact wanted_yes rfl rfl rfl rfl | exact (wanted_is rfl rfl rfl rfl).trans (by simp; omega) | exact (wanted_is rfl rfl rfl rfl).trans (by simp)) 49 _ rfl w.heap.size 0 rfl C' _ (rangeOf Ra5.out) Tryz.underlying49 rfl HCi'.out ?_)
    | (have _t := tokB; go_at_call 30; (with_reducible refine (PA.out _ B5.out).mono ?_); rintro e w6 ⟨rfl, hb6⟩; have B6 := Lib.hid (below_step B5.out hb6); have Ra6 := Lib.hid (Ra5.out.below hb6 Ra5.out.lt); have tok6 : Hid True := Lib.hid trivial; clear hb6 tokB _t))
  clear RA PA B1 B2 B3 B4 Ra1 Ra2 Ra4 C7 hCset tokC
  go_upto_region 8 with (first
    | (have _t := tok6; refine wpList_convF rfl 9 38 5 _ S S.size rfl rfl Tryz.underlying9 Tryz.underlying38 Tryz.underlying5 rfl ?_; intro w7 hr7 hb7; have B7 := Lib.hid (below_step B6.out hb7); have bq7 := Lib.hid hb7; have I7 := Lib.hid ((Hin.out.below B7.out).more B7.out.size); have R7 := Lib.hid hr7; have cg7 := Lib.hid (grownCap_ge w6 S.size 0 5); have cm7 := Lib.hid (grownCap_le_maxLen w6 S.size 0 5 (by have := Hz.out; simp only [maxLen]; omega)); have tok7 : Hid True := Lib.hid trivial; generalize grownCap w6 S.size 0 5 = cc7 at *; clear hr7 hb7 tok6 _t)
    | (have _t := tok7; at_builtin; refine wpList_append_row u8_ty rfl _ _ rfl w6.heap.size S.size cc7 (bytesV S.data.toList) _ rfl R7.out (by rw [bytesV_length, data_len]) (by rw [List.length_replicate]; have := cg7.out; omega) cm7.out w7.heap.size A n c (bytesV T) rfl I7.out (bytesV_one T) (by have := Hz.out; omega) (by have := Hz.out; simp only [maxLen]; omega) ?_; intro g8 cap8 w8 hs8 hg8 hb8; have bp8 := Lib.hid (hb8 _ _ bq7.out (Nat.le_refl _)); have B8 := Lib.hid (below_step B6.out bp8.out); have HS8 := Lib.hid hs8; have HG8 := Lib.hid hg8; have Ra8 := Lib.hid (Ra6.out.below bp8.out Ra6.out.lt); have tok8 : Hid True := Lib.hid trivial; clear hs8 hg8 hb8 tok7 _t)
    | (have _t := tok8; go_at_call 31; (with_reducible refine (U1.out _ _ _ B8.out HG8.out HS8.out).mono ?_); rintro e w9 ⟨E, rfl, hE9, hF9, hb9⟩; have B9 := Lib.hid (below_step B8.out hb9); have Er := Lib.hid hE9; have HF9 := Lib.hid hF9; have Ra9 := Lib.hid (Ra8.out.below hb9 Ra8.out.lt); have tok9 : Hid True := Lib.hid trivial; clear hE9 hb9 tok8 _t hF9)
    | (have _t := tok9; refine wpList_store_row rfl 49 _ _ rfl w9.heap.size _ E zeroM rfl rfl (RowAt.new w9 49 _) (by rw [Er.out.1]; rfl) (GI.out _ Er.out) Er.out.2 ?_; intro w10 hro hoo; have hb10 := hoo.below ((Below.refl w9.heap.size w9).alloc (Nat.le_refl _) _) (Nat.le_refl _); have B10 := Lib.hid (below_step B9.out hb10); have GE10 := Lib.hid (HF9.out _ (Fresh.only (Fresh.alloc (Fresh.refl _ _) _) hoo (Or.inr (Nat.le_refl _)))); have RE10 := Lib.hid hro; have Ra10 := Lib.hid (Ra9.out.below hb10 Ra9.out.lt); have tok10 : Hid True := Lib.hid trivial; clear hro hoo hb10 tok9 _t))
  clear U1 Ra6 Ra8 Ra9 I7 R7 HS8 HG8 HF9 bq7 bp8 cg7 cm7 B5 B6 B7 B8 B9
  have GX10 := GE10
  go_upto_region 9 with (first
    | (have _t := tok10; refine wpList_convF rfl 9 38 5 _ S S.size rfl rfl Tryz.underlying9 Tryz.underlying38 Tryz.underlying5 rfl ?_; intro w11 hr11 hb11; have B11 := Lib.hid (below_step B10.out hb11); have bq11 := Lib.hid hb11; have I11 := Lib.hid ((Hin.out.below B11.out).more B11.out.size); have R11 := Lib.hid hr11; have cg11 := Lib.hid (grownCap_ge w10 S.size 0 5); have cm11 := Lib.hid (grownCap_le_maxLen w10 S.size 0 5 (by have := Hz.out; simp only [maxLen]; omega)); have tok11 : Hid True := Lib.hid trivial; generalize grownCap w10 S.size 0 5 = cc11 at *; clear hr11 hb11 tok10 _t)
    | (have _t := tok11; at_builtin; refine wpList_append_row u8_ty rfl _ _ rfl w10.heap.size S.size cc11 (bytesV S.data.toList) _ rfl R11.out (by rw [bytesV_length, data_len]) (by rw [List.length_replicate]; have := cg11.out; omega) cm11.out w11.heap.size A n c (bytesV T) rfl I11.out (bytesV_one T) (by have := Hz.out; omega) (by have := Hz.out; simp only [maxLen]; omega) ?_; intro g12 cap12 w12 hs12 hg12 hb12; have bp12 := Lib.hid (hb12 _ _ bq11.out (Nat.le_refl _)); have B12 := Lib.hid (below_step B10.out bp12.out); have HS12 := Lib.hid hs12; have HG12 := Lib.hid hg12; have Ra12 := Lib.hid (Ra10.out.below bp12.out Ra10.out.lt); have RE12 := Lib.hid (RE10.out.below bp12.out RE10.out.lt); have GX12 := Lib.hid (GB.out _ _ _ GX10.out bp12.out); have tok12 : Hid True := Lib.hid trivial; clear hs12 hg12 hb12 tok11 _t)
    | (have _t := tok12; go_at_call 31; (with_reducible refine (U2.out _ _ _ B12.out HG12.out HS12.out).mono ?_); rintro e w13 ⟨D, rfl, hE13, hF13, hb13⟩; have B13 := Lib.hid (below_step B12.out hb13); have Dr := Lib.hid hE13; have HF13 := Lib.hid hF13; have Ra13 := Lib.hid (Ra12.out.below hb13 Ra12.out.lt); have RE13 := Lib.hid (RE12.out.below hb13 RE12.out.lt); have GX13 := Lib.hid (GB.out _ _ _ GX12.out hb13); have tok13 : Hid True := Lib.hid trivial; clear hE13 hb13 tok12 _t hF13)
    | (have _t := tok13; refine wpList_store_row rfl 49 _ _ rfl w13.heap.size _ D zeroM rfl rfl (RowAt.new w13 49 _) (by rw [Dr.out.1]; rfl) (GI.out _ Dr.out) Dr.out.2 ?_; intro w14 hro hoo; have hb14 := hoo.below ((Below.refl w13.heap.size w13).alloc (Nat.le_refl _) _) (Nat.le_refl _); have B14 := Lib.hid (below_step B13.out hb14); have GD14 := Lib.hid (HF13.out _ (Fresh.only (Fresh.alloc (Fresh.refl _ _) _) hoo (Or.inr (Nat.le_refl _)))); have RD14 := Lib.hid hro; have Ra14 := Lib.hid (Ra13.out.below hb14 Ra13.out.lt); have RE14 := Lib.hid (RE13.out.below hb14 RE13.out.lt); have GX14 := Lib.hid (GB.out _ _ _ GX13.out hb14); have tok14 : Hid True := Lib.hid trivial; clear hro hoo hb14 tok13 _t))
  clear U2 Ra10 Ra12 Ra13 RE10 RE12 RE13 I11 R11 HS12 HG12 bq11 bp12 cg11 cm11 B10 B11 B12 B13 GX10 GX12 GX13 GE10 HF13
  have c14 := Ra14.out.cell (j := 2) HcA'.out
  go_cut [12] from 56 to 71 (fun s12 wx => s12 = .bool true ∧ wx = w14)
  case first =>
    have hbb := HB.out
    clear HB
    by_cases h1 : st < 200
    · clear hbb
      go_wp2_with fail
      go_meet
      exact ⟨by first | rfl | trivial, by first | rfl | trivial⟩
    · by_cases h2 : st = 204
      · subst h2
        clear hbb
        go_wp2_with fail
        go_meet
        exact ⟨by first | rfl | trivial, by first | rfl | trivial⟩
      · have h2' : (st == 204) = false := by rw [beq_eq_false_iff_ne]; exact h2
        by_cases h3 : st = 304
        · subst h3
          clear hbb
          go_wp2_with fail
          go_meet
          exact ⟨by first | rfl | trivial, by first | rfl | trivial⟩
        · have h3' : (st == 304) = false := by rw [beq_eq_false_iff_ne]; exact h3
          rw [h2', h3', decide_eq_false h1] at hbb
          cases hbb
  case rest =>
    obtain ⟨rfl, hwc⟩ := hcut
    subst hwc
    clear c14
    have tok14 : Hid True := Lib.hid trivial
    go_wp2_with (first
      | (have _t := tok14; refine wpList_load_g (by first | exact wanted_un rfl | exact wanted_yes rfl rfl rfl rfl | exact (wanted_is rfl rfl rfl rfl).trans (by simp; omega) | exact (wanted_is rfl rfl rfl rfl).trans (by simp)) 49 _ rfl w9.heap.size 0 rfl E _ (rangeOf RE14.out) Tryz.underlying49 rfl (GI.out _ Er.out) ?_)
      | (have _t := tok14; refine wpList_load_g (by first | exact wanted_un rfl | exact wanted_yes rfl rfl rfl rfl | exact (wanted_is rfl rfl rfl rfl).trans (by simp; omega) | exact (wanted_is rfl rfl rfl rfl).trans (by simp)) 49 _ rfl w.heap.size 0 rfl C' _ (rangeOf Ra14.out) Tryz.underlying49 rfl HCi'.out ?_)
      | (have _t := tok14; go_at_call 27; (with_reducible refine (SM.out _ _ B14.out GX14.out).mono ?_); rintro e w15 ⟨rfl, hb15⟩; have B15 := Lib.hid (below_step B14.out hb15); have Ra15 := Lib.hid (Ra14.out.below hb15 Ra14.out.lt); have RD15 := Lib.hid (RD14.out.below hb15 RD14.out.lt); have GD15 := Lib.hid (GB.out _ _ _ GD14.out hb15); have tok15 : Hid True := Lib.hid trivial; clear hb15 tok14 _t)
      | (have _t := tok15; refine wpList_load_g (by first | exact wanted_un rfl | exact wanted_yes rfl rfl rfl rfl | exact (wanted_is rfl rfl rfl rfl).trans (by simp; omega) | exact (wanted_is rfl rfl rfl rfl).trans (by simp)) 49 _ rfl w13.heap.size 0 rfl D _ (rangeOf RD15.out) Tryz.underlying49 rfl (GI.out _ Dr.out) ?_)
      | (have _t := tok15; refine wpList_load_g (by first | exact wanted_un rfl | exact wanted_yes rfl rfl rfl rfl | exact (wanted_is rfl rfl rfl rfl).trans (by simp; omega) | exact (wanted_is rfl rfl rfl rfl).trans (by simp)) 49 _ rfl w.heap.size 0 rfl C' _ (rangeOf Ra15.out) Tryz.underlying49 rfl HCi'.out ?_)
      | (have _t := tok15; go_at_call 27; (with_reducible refine (SM.out _ _ B15.out GD15.out).mono ?_); rintro e w16 ⟨rfl, hb16⟩; have B16 := Lib.hid (below_step B15.out hb16); clear hb16 tok15 _t))
    go_ret
    exact ⟨rfl, B16.out⟩
set_option maxHeartbeats 32000000 in
theorem mb_good_body (C C' : List Value) (hC : RightC C) (st : Int) (ha : C[2]? = some (.int .i64 st)) (A : Option Addr) (n c : Nat) (T : List UInt8) (w : World) (S : ByteArray) (G : List Value → World → Prop) (hset : C.set 6 (.slice none 0 0) = C') (hn : n ≤ 300) (hst : st ≠ 0) (hz : S.size ≤ 400000) (hin : SliceIn w w.heap.size 1 A n c (bytesV T)) (hbb : (decide (st < 200) || (st == 204 || st == 304)) = false)
    (AW : ∀ W, Below w.heap.size w W → Calls Tryz.prog 21 #[] W fun e w' => e = .returned (.bool true) ∧ Below W.heap.size W w')
    (SA : ∀ W, Below w.heap.size w W → Calls Tryz.prog 28 #[.agg C.toArray, .string ⟨#[72, 69, 65, 68]⟩] W fun e w' => e = .returned (.bool true) ∧ Below W.heap.size W w')
    (RA : ∀ W, Below w.heap.size w W → Calls Tryz.prog 29 #[.agg C'.toArray, .string ⟨#[72, 69, 65, 68]⟩] W fun e w' => e = .returned (.bool true) ∧ Below W.heap.size W w')
    (PA : ∀ W, Below w.heap.size w W → Calls Tryz.prog 30 #[.agg C'.toArray, .string ⟨#[72, 69, 65, 68]⟩] W fun e w' => e = .returned (.string S) ∧ Below W.heap.size W w')
    (U1 : ∀ W g cap, Below w.heap.size w W → g < W.heap.size → SliceIn W W.heap.size 1 (some ⟨g, 0, none⟩) (S.size + n) cap (bytesV S.data.toList ++ bytesV T) → Calls Tryz.prog 31 #[.slice (some ⟨g, 0, none⟩) (S.size + n) cap, .bool false, .string ⟨#[72, 69, 65, 68]⟩] W fun e w' => ∃ E, e = .returned (.tuple #[.agg E.toArray, .int .i64 S.size, .int .i64 0]) ∧ RightC E ∧ (∀ W', Fresh W.heap.size w' W' → G E W') ∧ Below W.heap.size W w')
    (U2 : ∀ W g cap, Below w.heap.size w W → g < W.heap.size → SliceIn W W.heap.size 1 (some ⟨g, 0, none⟩) (S.size + n) cap (bytesV S.data.toList ++ bytesV T) → Calls Tryz.prog 31 #[.slice (some ⟨g, 0, none⟩) (S.size + n) cap, .bool false, .string ⟨#[71, 69, 84]⟩] W fun e w' => ∃ (E : List Value) (k f : Int), e = .returned (.tuple #[.agg E.toArray, .int .i64 k, .int .i64 f]) ∧ RightC E ∧ Below W.heap.size W w')
    (SM : ∀ W E, Below w.heap.size w W → G E W → Calls Tryz.prog 27 #[.agg E.toArray, .agg C'.toArray] W fun e w' => e = .returned (.bool true) ∧ Below W.heap.size W w')
    (GB : ∀ D W W', G D W → Below W.heap.size W W' → G D W') :
    Calls Tryz.prog 8 #[.agg C.toArray, .slice A n c] w fun e w' => e = .returned (.bool true) ∧ Below w.heap.size w w' := by
  have HMi : Hid ((Tryz.prog.info? 49).map (·.size) = some 7) := Lib.hid (by kernel_rfl)
  obtain ⟨w1, hw1⟩ : ∃ W : World, w.alloc (.cells C.toArray 49) = W := ⟨_, rfl⟩
  have B1 : Hid (Below w.heap.size w w1) := Lib.hid (by rw [← hw1]; exact (Below.refl _ _).alloc (Nat.le_refl _) _)
  have Ra1 : Hid (RowAt w1 w.heap.size 49 C) := Lib.hid (by rw [← hw1]; exact RowAt.new w 49 C)
  have HCi : Hid ((Tryz.prog.info? 49).map (·.size) = some C.length) := Lib.hid (by rw [hC.1]; exact HMi.out)
  have C7 := Lib.hid hC.1
  have HcA := Lib.hid ha
  have tokA : Hid True := Lib.hid trivial
  clear hC ha
  have hCset := Lib.hid hset
  have C7' : Hid (C'.length = 7) := Lib.hid (by rw [← hset, List.length_set]; exact C7.out)
  have HCi' : Hid ((Tryz.prog.info? 49).map (·.size) = some C'.length) := Lib.hid (by rw [C7'.out]; exact HMi.out)
  have HcA' : Hid (C'[2]? = some (.int .i64 st)) := Lib.hid (by rw [← hset, List.getElem?_set_ne (by decide)]; exact HcA.out)
  clear hset
  have GI : Hid (∀ E : List Value, RightC E → (Tryz.prog.info? 49).map (·.size) = some E.length) := Lib.hid (fun E h => by rw [h.1]; exact HMi.out)
  replace AW := Lib.hid AW
  replace SA := Lib.hid SA
  replace RA := Lib.hid RA
  replace PA := Lib.hid PA
  replace U1 := Lib.hid U1
  replace U2 := Lib.hid U2
  replace SM := Lib.hid SM
  replace GB := Lib.hid GB
  have hI : ¬ (300 : Int) < (n : Int) := by omega
  have hs0 : (st == 0) = false := by rw [beq_eq_false_iff_ne]; exact hst
  have Hz : Hid (S.size ≤ 400000 ∧ n ≤ 300) := Lib.hid ⟨hz, hn⟩
  have Hin := Lib.hid hin
  have HB := Lib.hid hbb
  clear hin hbb hz hn
  go_enter Tryz.func8, Tryz.ntmps8
  go_upto_region 3 with (first
    | (have _t := tokA; go_at_call 21; (with_reducible refine (AW.out _ B1.out).mono ?_); rintro e w2 ⟨rfl, hb2⟩; have B2 := Lib.hid (below_step B1.out hb2); have Ra2 := Lib.hid (Ra1.out.below hb2 Ra1.out.lt); have tokB : Hid True := Lib.hid trivial; clear hb2 tokA _t)
    | (have _t := tokB; refine wpList_load_g (by first | exact wanted_un rfl | exact wanted_yes rfl rfl rfl rfl | exact (wanted_is rfl rfl rfl rfl).trans (by simp; omega) | exact (wanted_is rfl rfl rfl rfl).trans (by simp)) 49 _ rfl w.heap.size 0 rfl C _ (rangeOf Ra2.out) Tryz.underlying49 rfl HCi.out ?_)
    | (have _t := tokB; go_at_call 28; (with_reducible refine (SA.out _ B2.out).mono ?_); rintro e w3 ⟨rfl, hb3⟩; have B3 := Lib.hid (below_step B2.out hb3); have Ra3 := Lib.hid (Ra2.out.below hb3 Ra2.out.lt); have a3 := Ra3.out.cell (j := 2) HcA.out; have f3 := Ra3.out.frozen (j := 6) (by have := C7.out; omega); have d3 := Ra3.out.cell (j := 6) (List.getElem?_eq_getElem (by have := C7.out; omega)); have tokC : Hid True := Lib.hid trivial; clear hb3 tokB _t))
  clear AW SA a3 HCi
  go_upto_region 4 with fail
  obtain ⟨w4, hw4⟩ : ∃ W : World, w3.setCell ⟨w.heap.size, 6, none⟩ (.slice none 0 0) = W := ⟨_, rfl⟩
  have Ra4 : Hid (RowAt w4 w.heap.size 49 C') := Lib.hid (by rw [← hw4, ← hCset.out]; exact Ra3.out.set_ (by have := C7.out; omega) _)
  have B4 : Hid (Below w.heap.size w w4) := Lib.hid (by rw [← hw4]; exact B3.out.setCell (Nat.le_refl _) _)
  rw [hw4]
  clear hw4 d3 f3 Ra3 HcA
  have tokA : Hid True := Lib.hid trivial
  go_upto_region 7 with (first
    | (have _t := tokA; refine wpList_load_g (by first | exact wanted_un rfl | exact wanted_yes rfl rfl rfl rfl | exact (wanted_is rfl rfl rfl rfl).trans (by simp; omega) | exact (wanted_is rfl rfl rfl rfl).trans (by simp)) 49 _ rfl w.heap.size 0 rfl C' _ (rangeOf Ra4.out) Tryz.underlying49 rfl HCi'.out ?_)
    | (have _t := tokA; go_at_call 29; (with_reducible refine (RA.out _ B4.out).mono ?_); rintro e w5 ⟨rfl, hb5⟩; have B5 := Lib.hid (below_step B4.out hb5); have Ra5 := Lib.hid (Ra4.out.below hb5 Ra4.out.lt); have tokB : Hid True := Lib.hid trivial; clear hb5 tokA _t)
    | (have _t := tokB; refine wpList_load_g (by first | exact wanted_un rfl | exact wanted_yes rfl rfl rfl rfl | exact (wanted_is rfl rfl rfl rfl).trans (by simp; omega) | exact (wanted_is rfl rfl rfl rfl).trans (by simp)) 49 _ rfl w.heap.size 0 rfl C' _ (rangeOf Ra5.out) Tryz.underlying49 rfl HCi'.out ?_)
    | (have _t := tokB; go_at_call 30; (with_reducible refine (PA.out _ B5.out).mono ?_); rintro e w6 ⟨rfl, hb6⟩; have B6 := Lib.hid (below_step B5.out hb6); have Ra6 := Lib.hid (Ra5.out.below hb6 Ra5.out.lt); have tok6 : Hid True := Lib.hid trivial; clear hb6 tokB _t))
  clear RA PA B1 B2 B3 B4 Ra1 Ra2 Ra4 C7 hCset tokC
  go_upto_region 8 with (first
    | (have _t := tok6; refine wpList_convF rfl 9 38 5 _ S S.size rfl rfl Tryz.underlying9 Tryz.underlying38 Tryz.underlying5 rfl ?_; intro w7 hr7 hb7; have B7 := Lib.hid (below_step B6.out hb7); have bq7 := Lib.hid hb7; have I7 := Lib.hid ((Hin.out.below B7.out).more B7.out.size); have R7 := Lib.hid hr7; have cg7 := Lib.hid (grownCap_ge w6 S.size 0 5); have cm7 := Lib.hid (grownCap_le_maxLen w6 S.size 0 5 (by have := Hz.out; simp only [maxLen]; omega)); have tok7 : Hid True := Lib.hid trivial; generalize grownCap w6 S.size 0 5 = cc7 at *; clear hr7 hb7 tok6 _t)
    | (have _t := tok7; at_builtin; refine wpList_append_row u8_ty rfl _ _ rfl w6.heap.size S.size cc7 (bytesV S.data.toList) _ rfl R7.out (by rw [bytesV_length, data_len]) (by rw [List.length_replicate]; have := cg7.out; omega) cm7.out w7.heap.size A n c (bytesV T) rfl I7.out (bytesV_one T) (by have := Hz.out; omega) (by have := Hz.out; simp only [maxLen]; omega) ?_; intro g8 cap8 w8 hs8 hg8 hb8; have bp8 := Lib.hid (hb8 _ _ bq7.out (Nat.le_refl _)); have B8 := Lib.hid (below_step B6.out bp8.out); have HS8 := Lib.hid hs8; have HG8 := Lib.hid hg8; have Ra8 := Lib.hid (Ra6.out.below bp8.out Ra6.out.lt); have tok8 : Hid True := Lib.hid trivial; clear hs8 hg8 hb8 tok7 _t)
    | (have _t := tok8; go_at_call 31; (with_reducible refine (U1.out _ _ _ B8.out HG8.out HS8.out).mono ?_); rintro e w9 ⟨E, rfl, hE9, hF9, hb9⟩; have B9 := Lib.hid (below_step B8.out hb9); have Er := Lib.hid hE9; have HF9 := Lib.hid hF9; have Ra9 := Lib.hid (Ra8.out.below hb9 Ra8.out.lt); have tok9 : Hid True := Lib.hid trivial; clear hE9 hb9 tok8 _t hF9)
    | (have _t := tok9; refine wpList_store_row rfl 49 _ _ rfl w9.heap.size _ E zeroM rfl rfl (RowAt.new w9 49 _) (by rw [Er.out.1]; rfl) (GI.out _ Er.out) Er.out.2 ?_; intro w10 hro hoo; have hb10 := hoo.below ((Below.refl w9.heap.size w9).alloc (Nat.le_refl _) _) (Nat.le_refl _); have B10 := Lib.hid (below_step B9.out hb10); have GE10 := Lib.hid (HF9.out _ (Fresh.only (Fresh.alloc (Fresh.refl _ _) _) hoo (Or.inr (Nat.le_refl _)))); have RE10 := Lib.hid hro; have Ra10 := Lib.hid (Ra9.out.below hb10 Ra9.out.lt); have tok10 : Hid True := Lib.hid trivial; clear hro hoo hb10 tok9 _t))
  clear U1 Ra6 Ra8 Ra9 I7 R7 HS8 HG8 HF9 bq7 bp8 cg7 cm7 B5 B6 B7 B8 B9
  have GX10 := GE10
  go_upto_region 9 with (first
    | (have _t := tok10; refine wpList_convF rfl 9 38 5 _ S S.size rfl rfl Tryz.underlying9 Tryz.underlying38 Tryz.underlying5 rfl ?_; intro w11 hr11 hb11; have B11 := Lib.hid (below_step B10.out hb11); have bq11 := Lib.hid hb11; have I11 := Lib.hid ((Hin.out.below B11.out).more B11.out.size); have R11 := Lib.hid hr11; have cg11 := Lib.hid (grownCap_ge w10 S.size 0 5); have cm11 := Lib.hid (grownCap_le_maxLen w10 S.size 0 5 (by have := Hz.out; simp only [maxLen]; omega)); have tok11 : Hid True := Lib.hid trivial; generalize grownCap w10 S.size 0 5 = cc11 at *; clear hr11 hb11 tok10 _t)
    | (have _t := tok11; at_builtin; refine wpList_append_row u8_ty rfl _ _ rfl w10.heap.size S.size cc11 (bytesV S.data.toList) _ rfl R11.out (by rw [bytesV_length, data_len]) (by rw [List.length_replicate]; have := cg11.out; omega) cm11.out w11.heap.size A n c (bytesV T) rfl I11.out (bytesV_one T) (by have := Hz.out; omega) (by have := Hz.out; simp only [maxLen]; omega) ?_; intro g12 cap12 w12 hs12 hg12 hb12; have bp12 := Lib.hid (hb12 _ _ bq11.out (Nat.le_refl _)); have B12 := Lib.hid (below_step B10.out bp12.out); have HS12 := Lib.hid hs12; have HG12 := Lib.hid hg12; have Ra12 := Lib.hid (Ra10.out.below bp12.out Ra10.out.lt); have RE12 := Lib.hid (RE10.out.below bp12.out RE10.out.lt); have GX12 := Lib.hid (GB.out _ _ _ GX10.out bp12.out); have tok12 : Hid True := Lib.hid trivial; clear hs12 hg12 hb12 tok11 _t)
    | (have _t := tok12; go_at_call 31; (with_reducible refine (U2.out _ _ _ B12.out HG12.out HS12.out).mono ?_); rintro e w13 ⟨D, k, f, rfl, hE13, hb13⟩; have B13 := Lib.hid (below_step B12.out hb13); have Dr := Lib.hid hE13; have Ra13 := Lib.hid (Ra12.out.below hb13 Ra12.out.lt); have RE13 := Lib.hid (RE12.out.below hb13 RE12.out.lt); have GX13 := Lib.hid (GB.out _ _ _ GX12.out hb13); have tok13 : Hid True := Lib.hid trivial; clear hE13 hb13 tok12 _t)
    | (have _t := tok13; refine wpList_store_row rfl 49 _ _ rfl w13.heap.size _ D zeroM rfl rfl (RowAt.new w13 49 _) (by rw [Dr.out.1]; rfl) (GI.out _ Dr.out) Dr.out.2 ?_; intro w14 hro hoo; have hb14 := hoo.below ((Below.refl w13.heap.size w13).alloc (Nat.le_refl _) _) (Nat.le_refl _); have B14 := Lib.hid (below_step B13.out hb14); have RD14 := Lib.hid hro; have Ra14 := Lib.hid (Ra13.out.below hb14 Ra13.out.lt); have RE14 := Lib.hid (RE13.out.below hb14 RE13.out.lt); have GX14 := Lib.hid (GB.out _ _ _ GX13.out hb14); have tok14 : Hid True := Lib.hid trivial; clear hro hoo hb14 tok13 _t))
  clear U2 Ra10 Ra12 Ra13 RE10 RE12 RE13 I11 R11 HS12 HG12 bq11 bp12 cg11 cm11 B10 B11 B12 B13 GX10 GX12 GX13 GE10
  have c14 := Ra14.out.cell (j := 2) HcA'.out
  go_cut [12] from 56 to 71 (fun s12 wx => s12 = .bool false ∧ wx = w14)
  case first =>
    have hbb := HB.out
    clear HB
    rw [Bool.or_eq_false_iff, Bool.or_eq_false_iff, decide_eq_false_iff_not] at hbb
    obtain ⟨h1, h2, h3⟩ := hbb
    go_wp2_with fail
    go_meet
    exact ⟨by first | rfl | trivial, by first | rfl | trivial⟩
  case rest =>
    obtain ⟨rfl, hwc⟩ := hcut
    subst hwc
    clear c14
    have tok14 : Hid True := Lib.hid trivial
    go_wp2_with (first
      | (have _t := tok14; refine wpList_load_g (by first | exact wanted_un rfl | exact wanted_yes rfl rfl rfl rfl | exact (wanted_is rfl rfl rfl rfl).trans (by simp; omega) | exact (wanted_is rfl rfl rfl rfl).trans (by simp)) 49 _ rfl w9.heap.size 0 rfl E _ (rangeOf RE14.out) Tryz.underlying49 rfl (GI.out _ Er.out) ?_)
      | (have _t := tok14; refine wpList_load_g (by first | exact wanted_un rfl | exact wanted_yes rfl rfl rfl rfl | exact (wanted_is rfl rfl rfl rfl).trans (by simp; omega) | exact (wanted_is rfl rfl rfl rfl).trans (by simp)) 49 _ rfl w.heap.size 0 rfl C' _ (rangeOf Ra14.out) Tryz.underlying49 rfl HCi'.out ?_)
      | (have _t := tok14; go_at_call 27; (with_reducible refine (SM.out _ _ B14.out GX14.out).mono ?_); rintro e w15 ⟨rfl, hb15⟩; have B15 := Lib.hid (below_step B14.out hb15); have Ra15 := Lib.hid (Ra14.out.below hb15 Ra14.out.lt); have tok15 : Hid True := Lib.hid trivial; clear hb15 tok14 _t))
    go_ret
    exact ⟨rfl, B15.out⟩
theorem mbare_walk (w : World) (hsh : w.ShapedOpen Tryz.prog) (s : Sta) (A : Option Addr) (n c : Nat) (L : List Fld) (B : Option Addr) (m e : Nat) (X : List UInt8) (fA : SliceIn w w.heap.size 2 A n c (fldsV L)) (fB : SliceIn w w.heap.size 1 B m e (bytesV X)) (wS : StaW s)
    (A' : Option Addr) (n' c' : Nat) (T : List UInt8) (hin : SliceIn w w.heap.size 1 A' n' c' (bytesV T)) :
    Calls Tryz.prog 8 #[.agg (msgC s (.slice A n c) (.slice B m e)).toArray, .slice A' n' c'] w fun e w' => e = .returned (.bool true) ∧ Below w.heap.size w w' := by
  have AW : ∀ W, Below w.heap.size w W → Calls Tryz.prog 21 #[] W fun e w' => e = .returned (.bool true) ∧ Below W.heap.size W w' := fun W hW => awake08_any W (shaped_below hsh hW)
  have SA := fun (W : World) (hW : Below w.heap.size w W) => small_any s L X A B n m c e ⟨#[72, 69, 65, 68]⟩ W ((fA.below hW).more hW.size) ((fB.below hW).more hW.size)
  have hC := msgC_right s A B n c m e
  have hLn := fld_count fA
  cases hsa : smallM s L X (⟨#[72, 69, 65, 68]⟩ : ByteArray).size with
  | false => rw [hsa] at SA; exact mb_far1 _ hC s.status rfl A' n' c' w AW SA
  | true =>
    rw [hsa] at SA
    have KA := smallM_is hsa
    by_cases hn : 300 < n'
    · exact mb_far2 _ hC s.status rfl A' n' c' w hn AW SA
    · by_cases hst : s.status = 0
      · exact mb_far3 _ hC s.status rfl A' n' c' w (by omega) hst AW SA
      · have FA : FldB L n := by rw [← hLn]; exact KA.fldB
        have fN : ∀ W : World, SliceIn W W.heap.size 1 none 0 0 (bytesV []) := fun W => SliceIn.none_ (Nat.zero_le _)
        have RA := fun (W : World) (hW : Below w.heap.size w W) => rright8_any s (KA.staB wS).sta L [] A none n 0 c 0 ⟨#[72, 69, 65, 68]⟩ W ((fA.below hW).more hW.size) (fN W) FA.n FA FA.f
        have hmn : (⟨#[72, 69, 65, 68]⟩ : ByteArray).data.toList = headN := rfl
        have hmg : (⟨#[71, 69, 84]⟩ : ByteArray).data.toList = getN := rfl
        cases hra : rightM ⟨s, L, []⟩ (⟨#[72, 69, 65, 68]⟩ : ByteArray).data.toList with
        | false => rw [hra] at RA; exact mb_wrong _ _ hC s.status rfl A' n' c' w rfl (by omega) hst AW SA RA
        | true =>
          rw [hra] at RA
          have PA := fun (W : World) (hW : Below w.heap.size w W) => rprint8_any s (KA.staB wS) L [] A none n 0 c 0 ⟨#[72, 69, 65, 68]⟩ W ((fA.below hW).more hW.size) (fN W) FA FA.z (by omega)
          have KN : SmallM s L [] 4 := ⟨KA.me, KA.ta, KA.re, KA.fn, by simp, by omega, KA.fs⟩
          have za := KN.print (⟨#[72, 69, 65, 68]⟩ : ByteArray).data.toList
          have ea : (⟨(printM ⟨s, L, []⟩ (⟨#[72, 69, 65, 68]⟩ : ByteArray).data.toList).toArray⟩ : ByteArray).data.toList = printM ⟨s, L, []⟩ (⟨#[72, 69, 65, 68]⟩ : ByteArray).data.toList := by simp
          obtain ⟨Sa, hSa⟩ : ∃ x : ByteArray, (⟨(printM ⟨s, L, []⟩ (⟨#[72, 69, 65, 68]⟩ : ByteArray).data.toList).toArray⟩ : ByteArray) = x := ⟨_, rfl⟩
          rw [hSa] at ea PA
          have la : Sa.size = (printM ⟨s, L, []⟩ (⟨#[72, 69, 65, 68]⟩ : ByteArray).data.toList).length := by rw [← data_len, ea]
          have hsf : (s.status == 0) = false := by rw [beq_eq_false_iff_ne]; exact hst
          have U1 := fun (W : World) (g cap : Nat) (hW : Below w.heap.size w W) (hg : g < W.heap.size) (hs : SliceIn W W.heap.size 1 (some ⟨g, 0, none⟩) (Sa.size + n') cap (bytesV Sa.data.toList ++ bytesV T)) =>
            parse_of s L [] ⟨#[72, 69, 65, 68]⟩ false hsf hra (Sa.data.toList ++ T) T (by rw [ea]) (Sa.size + n') Sa.size la.symm g 0 cap W (shaped_below hsh hW) hg (by decide) (by rw [bytesV_append]; exact hs) (by omega)
          have SM := fun (W : World) (E : List Value) (hW : Below w.heap.size w W) (hE : IsMsg (toldOf s L []) E W) => same_of s L [] (by have := KA.fn; omega) E (msgC s (.slice A n c) (.slice none 0 0)) W hE ⟨A, n, c, none, 0, 0, rfl, (fA.below hW).more hW.size, fN W⟩
          cases hbb : (decide (s.status < 200) || (s.status == 204 || s.status == 304)) with
          | false =>
            refine mb_good_body _ _ hC s.status rfl A' n' c' T w Sa (IsMsg (toldOf s L [])) rfl (by omega) hst (by omega) hin hbb AW SA RA PA U1 ?_ SM (isMsg_below _)
            intro W g cap hW hg hs
            refine (mparseT_any false ⟨#[71, 69, 84]⟩ g 0 (Sa.size + n') cap (Sa.data.toList ++ T) W (shaped_below hsh hW) hg (by decide) (by rw [bytesV_append]; exact hs) (by omega)).mono ?_
            rintro x w' ⟨h, hb⟩
            rcases h with ⟨-, rfl⟩ | ⟨-, -, rfl⟩ | ⟨-, -, A1, n1, c1, A2, n2, c2, rfl, -, -⟩
            · exact ⟨_, _, _, rfl, msgC_right Sta.zero none none 0 0 0 0, hb⟩
            · exact ⟨_, _, _, rfl, msgC_right Sta.zero none none 0 0 0 0, hb⟩
            · exact ⟨_, _, _, rfl, msgC_right _ _ _ _ _ _ _, hb⟩
          | true =>
            have hb1 : bareM s.status headN = true := bare_head _
            have hb2 : bareM s.status getN = true := by
              simp only [bareM, Bool.or_eq_true, decide_eq_true_eq, beq_iff_eq] at hbb ⊢
              rcases hbb with h | h | h
              · exact .inl (.inl (.inr h))
              · exact .inl (.inr h)
              · exact .inr h
            have hrg : rightM ⟨s, L, []⟩ (⟨#[71, 69, 84]⟩ : ByteArray).data.toList = true := by rw [hmg, right_bare hst hb2 hb1, ← hmn]; exact hra
            have hpg : printM ⟨s, L, []⟩ (⟨#[71, 69, 84]⟩ : ByteArray).data.toList = printM ⟨s, L, []⟩ (⟨#[72, 69, 65, 68]⟩ : ByteArray).data.toList := by rw [hmg, hmn]; exact print_bare hst hb2 hb1
            have U2 := fun (W : World) (g cap : Nat) (hW : Below w.heap.size w W) (hg : g < W.heap.size) (hs : SliceIn W W.heap.size 1 (some ⟨g, 0, none⟩) (Sa.size + n') cap (bytesV Sa.data.toList ++ bytesV T)) =>
              parse_of s L [] ⟨#[71, 69, 84]⟩ false hsf hrg (Sa.data.toList ++ T) T (by rw [hpg, ea]) (Sa.size + n') Sa.size (by rw [hpg]; exact la.symm) g 0 cap W (shaped_below hsh hW) hg (by decide) (by rw [bytesV_append]; exact hs) (by omega)
            exact mb_good_bare _ _ hC s.status rfl A' n' c' T w Sa (IsMsg (toldOf s L [])) rfl (by omega) hst (by omega) hin hbb AW SA RA PA U1 U2 SM (isMsg_below _)
end Go.Proofs.YteocdpkenlkmbaaGreatDoor
