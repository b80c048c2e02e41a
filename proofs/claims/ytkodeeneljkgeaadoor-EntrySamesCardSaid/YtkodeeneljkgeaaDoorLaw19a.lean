/- Layer 19's laws: EntrySames, walked. Condition: the entries' own. Printed by mklaw19a.py. -/
import Derived.Test.YtkodeeneljkgeaaDoorEc
import Derived.Test.YtkodeeneljkgeaaDoorEs
namespace Go.Proofs.YtkodeeneljkgeaaDoor
open Go.RowKit IH
set_option maxRecDepth 100000
set_option maxHeartbeats 32000000 in
theorem esames_1 (C D : List Value) (hC : C.length = 15) (hD : D.length = 15) (w : World)
    (FA : ∀ W, Below w.heap.size w W → Calls Tryd.prog 10 #[.agg C.toArray] W fun e w' => e = .returned (.bool false) ∧ Below W.heap.size W w')
    : Calls Tryd.prog 4 #[.agg C.toArray, .agg D.toArray] w fun e w' => e = .returned (.bool true) ∧ Below w.heap.size w w' := by
  obtain ⟨w2, hw2⟩ : ∃ W, (w.alloc (.cells C.toArray 33)).alloc (.cells D.toArray 33) = W := ⟨_, rfl⟩
  have B2 : Hid (Below w.heap.size w w2) := Lib.hid (by rw [← hw2]; exact ((Below.refl _ _).alloc (Nat.le_refl _) _).alloc (by simp) _)
  have R1 : RowAt w2 w.heap.size 33 C := by rw [← hw2]; exact (RowAt.new w 33 C).alloc _
  have R2 : RowAt w2 (w.heap.size + 1) 33 D := by
    rw [← hw2]
    have h := RowAt.new (w.alloc (.cells C.toArray 33)) 33 D
    rw [World.size_alloc] at h
    exact h
  have l1 := R1.lt
  have l2 := R2.lt
  have KA : Hid (∀ W, Below w2.heap.size w2 W → W.rangeAt w.heap.size 0 C) := Lib.hid (fun W hW => rangeOf (R1.below hW l1))
  have KB : Hid (∀ W, Below w2.heap.size w2 W → W.rangeAt (w.heap.size + 1) 0 D) := Lib.hid (fun W hW => rangeOf (R2.below hW l2))
  have BB : Hid (∀ W, Below w2.heap.size w2 W → Below w.heap.size w W) := Lib.hid (fun W hW => B2.out.trans (hW.mono B2.out.size))
  have DD : Hid (Below w2.heap.size w2 w2) := Lib.hid (Below.refl _ _)
  have HC : Hid ((Tryd.prog.info? 33).map (·.size) = some C.length) := Lib.hid (by rw [hC]; kernel_rfl)
  have HD : Hid ((Tryd.prog.info? 33).map (·.size) = some D.length) := Lib.hid (by rw [hD]; kernel_rfl)
  have AW := Lib.hid awake19_any
  clear R1 R2 l1 l2 hC hD
  replace FA := Lib.hid FA
  go_enter Tryd.func4, Tryd.ntmps4
  go_wp2_with (first
    | (refine wpList_load_g (by first | exact wanted_un rfl | exact wanted_yes rfl rfl rfl rfl) 33 _ rfl w.heap.size 0 rfl C _ (KA.out _ DD.out) Tryd.underlying33 rfl HC.out ?_)
    | (refine wpList_load_g (by first | exact wanted_un rfl | exact wanted_yes rfl rfl rfl rfl) 33 _ rfl (w.heap.size + 1) 0 rfl D _ (KB.out _ DD.out) Tryd.underlying33 rfl HD.out ?_)
    | (go_at_call 6; (with_reducible refine (AW.out _).mono ?_); rintro e wz ⟨rfl, rfl⟩)
    | (go_at_call 10; (with_reducible refine (FA.out _ (BB.out _ DD.out)).mono ?_); rintro e wn ⟨rfl, hb⟩; replace DD := Lib.hid (below_step DD.out hb); clear hb))
  go_ret
  exact ⟨ret_bool (by simp), BB.out _ DD.out⟩
set_option maxHeartbeats 32000000 in
theorem esames_2 (C D : List Value) (hC : C.length = 15) (hD : D.length = 15) (w : World)
    (FA : ∀ W, Below w.heap.size w W → Calls Tryd.prog 10 #[.agg C.toArray] W fun e w' => e = .returned (.bool true) ∧ Below W.heap.size W w')
    (FB : ∀ W, Below w.heap.size w W → Calls Tryd.prog 10 #[.agg D.toArray] W fun e w' => e = .returned (.bool false) ∧ Below W.heap.size W w')
    : Calls Tryd.prog 4 #[.agg C.toArray, .agg D.toArray] w fun e w' => e = .returned (.bool true) ∧ Below w.heap.size w w' := by
  obtain ⟨w2, hw2⟩ : ∃ W, (w.alloc (.cells C.toArray 33)).alloc (.cells D.toArray 33) = W := ⟨_, rfl⟩
  have B2 : Hid (Below w.heap.size w w2) := Lib.hid (by rw [← hw2]; exact ((Below.refl _ _).alloc (Nat.le_refl _) _).alloc (by simp) _)
  have R1 : RowAt w2 w.heap.size 33 C := by rw [← hw2]; exact (RowAt.new w 33 C).alloc _
  have R2 : RowAt w2 (w.heap.size + 1) 33 D := by
    rw [← hw2]
    have h := RowAt.new (w.alloc (.cells C.toArray 33)) 33 D
    rw [World.size_alloc] at h
    exact h
  have l1 := R1.lt
  have l2 := R2.lt
  have KA : Hid (∀ W, Below w2.heap.size w2 W → W.rangeAt w.heap.size 0 C) := Lib.hid (fun W hW => rangeOf (R1.below hW l1))
  have KB : Hid (∀ W, Below w2.heap.size w2 W → W.rangeAt (w.heap.size + 1) 0 D) := Lib.hid (fun W hW => rangeOf (R2.below hW l2))
  have BB : Hid (∀ W, Below w2.heap.size w2 W → Below w.heap.size w W) := Lib.hid (fun W hW => B2.out.trans (hW.mono B2.out.size))
  have DD : Hid (Below w2.heap.size w2 w2) := Lib.hid (Below.refl _ _)
  have HC : Hid ((Tryd.prog.info? 33).map (·.size) = some C.length) := Lib.hid (by rw [hC]; kernel_rfl)
  have HD : Hid ((Tryd.prog.info? 33).map (·.size) = some D.length) := Lib.hid (by rw [hD]; kernel_rfl)
  have AW := Lib.hid awake19_any
  clear R1 R2 l1 l2 hC hD
  replace FA := Lib.hid FA
  replace FB := Lib.hid FB
  go_enter Tryd.func4, Tryd.ntmps4
  go_wp2_with (first
    | (refine wpList_load_g (by first | exact wanted_un rfl | exact wanted_yes rfl rfl rfl rfl) 33 _ rfl w.heap.size 0 rfl C _ (KA.out _ DD.out) Tryd.underlying33 rfl HC.out ?_)
    | (refine wpList_load_g (by first | exact wanted_un rfl | exact wanted_yes rfl rfl rfl rfl) 33 _ rfl (w.heap.size + 1) 0 rfl D _ (KB.out _ DD.out) Tryd.underlying33 rfl HD.out ?_)
    | (go_at_call 6; (with_reducible refine (AW.out _).mono ?_); rintro e wz ⟨rfl, rfl⟩)
    | (go_at_call 10; (with_reducible refine (FA.out _ (BB.out _ DD.out)).mono ?_); rintro e wn ⟨rfl, hb⟩; replace DD := Lib.hid (below_step DD.out hb); clear hb)
    | (go_at_call 10; (with_reducible refine (FB.out _ (BB.out _ DD.out)).mono ?_); rintro e wn ⟨rfl, hb⟩; replace DD := Lib.hid (below_step DD.out hb); clear hb))
  go_ret
  exact ⟨ret_bool (by simp), BB.out _ DD.out⟩
set_option maxHeartbeats 32000000 in
theorem esames_3 (C D : List Value) (hC : C.length = 15) (hD : D.length = 15) (w : World) (S : Bool)
    (FA : ∀ W, Below w.heap.size w W → Calls Tryd.prog 10 #[.agg C.toArray] W fun e w' => e = .returned (.bool true) ∧ Below W.heap.size W w')
    (FB : ∀ W, Below w.heap.size w W → Calls Tryd.prog 10 #[.agg D.toArray] W fun e w' => e = .returned (.bool true) ∧ Below W.heap.size W w')
    (SM : ∀ W, Below w.heap.size w W → Calls Tryd.prog 9 #[.agg C.toArray, .agg D.toArray] W fun e w' => e = .returned (.bool S) ∧ Below W.heap.size W w')
    (ES : ∀ W, Below w.heap.size w W → Calls Tryd.prog 11 #[.agg C.toArray, .agg D.toArray] W fun e w' => e = .returned (.bool S) ∧ Below W.heap.size W w')
    (EA : ∀ W, Below w.heap.size w W → Calls Tryd.prog 11 #[.agg C.toArray, .agg C.toArray] W fun e w' => e = .returned (.bool true) ∧ Below W.heap.size W w')
    (RA : ∀ W, Below w.heap.size w W → Calls Tryd.prog 12 #[.agg C.toArray] W fun e w' => e = .returned (.bool false) ∧ Below W.heap.size W w')
    : Calls Tryd.prog 4 #[.agg C.toArray, .agg D.toArray] w fun e w' => e = .returned (.bool true) ∧ Below w.heap.size w w' := by
  obtain ⟨w2, hw2⟩ : ∃ W, (w.alloc (.cells C.toArray 33)).alloc (.cells D.toArray 33) = W := ⟨_, rfl⟩
  have B2 : Hid (Below w.heap.size w w2) := Lib.hid (by rw [← hw2]; exact ((Below.refl _ _).alloc (Nat.le_refl _) _).alloc (by simp) _)
  have R1 : RowAt w2 w.heap.size 33 C := by rw [← hw2]; exact (RowAt.new w 33 C).alloc _
  have R2 : RowAt w2 (w.heap.size + 1) 33 D := by
    rw [← hw2]
    have h := RowAt.new (w.alloc (.cells C.toArray 33)) 33 D
    rw [World.size_alloc] at h
    exact h
  have l1 := R1.lt
  have l2 := R2.lt
  have KA : Hid (∀ W, Below w2.heap.size w2 W → W.rangeAt w.heap.size 0 C) := Lib.hid (fun W hW => rangeOf (R1.below hW l1))
  have KB : Hid (∀ W, Below w2.heap.size w2 W → W.rangeAt (w.heap.size + 1) 0 D) := Lib.hid (fun W hW => rangeOf (R2.below hW l2))
  have BB : Hid (∀ W, Below w2.heap.size w2 W → Below w.heap.size w W) := Lib.hid (fun W hW => B2.out.trans (hW.mono B2.out.size))
  have DD : Hid (Below w2.heap.size w2 w2) := Lib.hid (Below.refl _ _)
  have HC : Hid ((Tryd.prog.info? 33).map (·.size) = some C.length) := Lib.hid (by rw [hC]; kernel_rfl)
  have HD : Hid ((Tryd.prog.info? 33).map (·.size) = some D.length) := Lib.hid (by rw [hD]; kernel_rfl)
  have AW := Lib.hid awake19_any
  clear R1 R2 l1 l2 hC hD
  replace FA := Lib.hid FA
  replace FB := Lib.hid FB
  replace SM := Lib.hid SM
  replace ES := Lib.hid ES
  replace EA := Lib.hid EA
  replace RA := Lib.hid RA
  have nS : (S != S) = false := by simp
  have nS2 : (S == S) = true := by simp
  go_enter Tryd.func4, Tryd.ntmps4
  go_wp2_with (first
    | (refine wpList_load_g (by first | exact wanted_un rfl | exact wanted_yes rfl rfl rfl rfl) 33 _ rfl w.heap.size 0 rfl C _ (KA.out _ DD.out) Tryd.underlying33 rfl HC.out ?_)
    | (refine wpList_load_g (by first | exact wanted_un rfl | exact wanted_yes rfl rfl rfl rfl) 33 _ rfl (w.heap.size + 1) 0 rfl D _ (KB.out _ DD.out) Tryd.underlying33 rfl HD.out ?_)
    | (go_at_call 6; (with_reducible refine (AW.out _).mono ?_); rintro e wz ⟨rfl, rfl⟩)
    | (go_at_call 10; (with_reducible refine (FA.out _ (BB.out _ DD.out)).mono ?_); rintro e wn ⟨rfl, hb⟩; replace DD := Lib.hid (below_step DD.out hb); clear hb)
    | (go_at_call 10; (with_reducible refine (FB.out _ (BB.out _ DD.out)).mono ?_); rintro e wn ⟨rfl, hb⟩; replace DD := Lib.hid (below_step DD.out hb); clear hb)
    | (go_at_call 9; (with_reducible refine (SM.out _ (BB.out _ DD.out)).mono ?_); rintro e wn ⟨rfl, hb⟩; replace DD := Lib.hid (below_step DD.out hb); clear hb)
    | (go_at_call 11; (with_reducible refine (ES.out _ (BB.out _ DD.out)).mono ?_); rintro e wn ⟨rfl, hb⟩; replace DD := Lib.hid (below_step DD.out hb); clear hb)
    | (go_at_call 11; (with_reducible refine (EA.out _ (BB.out _ DD.out)).mono ?_); rintro e wn ⟨rfl, hb⟩; replace DD := Lib.hid (below_step DD.out hb); clear hb)
    | (go_at_call 12; (with_reducible refine (RA.out _ (BB.out _ DD.out)).mono ?_); rintro e wn ⟨rfl, hb⟩; replace DD := Lib.hid (below_step DD.out hb); clear hb))
  go_ret
  exact ⟨ret_bool (by simp), BB.out _ DD.out⟩
set_option maxHeartbeats 32000000 in
theorem esames_4 (C D : List Value) (hC : C.length = 15) (hD : D.length = 15) (w : World) (S : Bool)
    (FA : ∀ W, Below w.heap.size w W → Calls Tryd.prog 10 #[.agg C.toArray] W fun e w' => e = .returned (.bool true) ∧ Below W.heap.size W w')
    (FB : ∀ W, Below w.heap.size w W → Calls Tryd.prog 10 #[.agg D.toArray] W fun e w' => e = .returned (.bool true) ∧ Below W.heap.size W w')
    (SM : ∀ W, Below w.heap.size w W → Calls Tryd.prog 9 #[.agg C.toArray, .agg D.toArray] W fun e w' => e = .returned (.bool S) ∧ Below W.heap.size W w')
    (ES : ∀ W, Below w.heap.size w W → Calls Tryd.prog 11 #[.agg C.toArray, .agg D.toArray] W fun e w' => e = .returned (.bool S) ∧ Below W.heap.size W w')
    (EA : ∀ W, Below w.heap.size w W → Calls Tryd.prog 11 #[.agg C.toArray, .agg C.toArray] W fun e w' => e = .returned (.bool true) ∧ Below W.heap.size W w')
    (RA : ∀ W, Below w.heap.size w W → Calls Tryd.prog 12 #[.agg C.toArray] W fun e w' => e = .returned (.bool true) ∧ Below W.heap.size W w')
    (RB : ∀ W, Below w.heap.size w W → Calls Tryd.prog 12 #[.agg D.toArray] W fun e w' => e = .returned (.bool false) ∧ Below W.heap.size W w')
    : Calls Tryd.prog 4 #[.agg C.toArray, .agg D.toArray] w fun e w' => e = .returned (.bool true) ∧ Below w.heap.size w w' := by
  obtain ⟨w2, hw2⟩ : ∃ W, (w.alloc (.cells C.toArray 33)).alloc (.cells D.toArray 33) = W := ⟨_, rfl⟩
  have B2 : Hid (Below w.heap.size w w2) := Lib.hid (by rw [← hw2]; exact ((Below.refl _ _).alloc (Nat.le_refl _) _).alloc (by simp) _)
  have R1 : RowAt w2 w.heap.size 33 C := by rw [← hw2]; exact (RowAt.new w 33 C).alloc _
  have R2 : RowAt w2 (w.heap.size + 1) 33 D := by
    rw [← hw2]
    have h := RowAt.new (w.alloc (.cells C.toArray 33)) 33 D
    rw [World.size_alloc] at h
    exact h
  have l1 := R1.lt
  have l2 := R2.lt
  have KA : Hid (∀ W, Below w2.heap.size w2 W → W.rangeAt w.heap.size 0 C) := Lib.hid (fun W hW => rangeOf (R1.below hW l1))
  have KB : Hid (∀ W, Below w2.heap.size w2 W → W.rangeAt (w.heap.size + 1) 0 D) := Lib.hid (fun W hW => rangeOf (R2.below hW l2))
  have BB : Hid (∀ W, Below w2.heap.size w2 W → Below w.heap.size w W) := Lib.hid (fun W hW => B2.out.trans (hW.mono B2.out.size))
  have DD : Hid (Below w2.heap.size w2 w2) := Lib.hid (Below.refl _ _)
  have HC : Hid ((Tryd.prog.info? 33).map (·.size) = some C.length) := Lib.hid (by rw [hC]; kernel_rfl)
  have HD : Hid ((Tryd.prog.info? 33).map (·.size) = some D.length) := Lib.hid (by rw [hD]; kernel_rfl)
  have AW := Lib.hid awake19_any
  clear R1 R2 l1 l2 hC hD
  replace FA := Lib.hid FA
  replace FB := Lib.hid FB
  replace SM := Lib.hid SM
  replace ES := Lib.hid ES
  replace EA := Lib.hid EA
  replace RA := Lib.hid RA
  replace RB := Lib.hid RB
  have nS : (S != S) = false := by simp
  have nS2 : (S == S) = true := by simp
  go_enter Tryd.func4, Tryd.ntmps4
  go_wp2_with (first
    | (refine wpList_load_g (by first | exact wanted_un rfl | exact wanted_yes rfl rfl rfl rfl) 33 _ rfl w.heap.size 0 rfl C _ (KA.out _ DD.out) Tryd.underlying33 rfl HC.out ?_)
    | (refine wpList_load_g (by first | exact wanted_un rfl | exact wanted_yes rfl rfl rfl rfl) 33 _ rfl (w.heap.size + 1) 0 rfl D _ (KB.out _ DD.out) Tryd.underlying33 rfl HD.out ?_)
    | (go_at_call 6; (with_reducible refine (AW.out _).mono ?_); rintro e wz ⟨rfl, rfl⟩)
    | (go_at_call 10; (with_reducible refine (FA.out _ (BB.out _ DD.out)).mono ?_); rintro e wn ⟨rfl, hb⟩; replace DD := Lib.hid (below_step DD.out hb); clear hb)
    | (go_at_call 10; (with_reducible refine (FB.out _ (BB.out _ DD.out)).mono ?_); rintro e wn ⟨rfl, hb⟩; replace DD := Lib.hid (below_step DD.out hb); clear hb)
    | (go_at_call 9; (with_reducible refine (SM.out _ (BB.out _ DD.out)).mono ?_); rintro e wn ⟨rfl, hb⟩; replace DD := Lib.hid (below_step DD.out hb); clear hb)
    | (go_at_call 11; (with_reducible refine (ES.out _ (BB.out _ DD.out)).mono ?_); rintro e wn ⟨rfl, hb⟩; replace DD := Lib.hid (below_step DD.out hb); clear hb)
    | (go_at_call 11; (with_reducible refine (EA.out _ (BB.out _ DD.out)).mono ?_); rintro e wn ⟨rfl, hb⟩; replace DD := Lib.hid (below_step DD.out hb); clear hb)
    | (go_at_call 12; (with_reducible refine (RA.out _ (BB.out _ DD.out)).mono ?_); rintro e wn ⟨rfl, hb⟩; replace DD := Lib.hid (below_step DD.out hb); clear hb)
    | (go_at_call 12; (with_reducible refine (RB.out _ (BB.out _ DD.out)).mono ?_); rintro e wn ⟨rfl, hb⟩; replace DD := Lib.hid (below_step DD.out hb); clear hb))
  go_ret
  exact ⟨ret_bool (by simp), BB.out _ DD.out⟩
set_option maxHeartbeats 32000000 in
theorem esames_5 (C D : List Value) (hC : C.length = 15) (hD : D.length = 15) (w : World) (S : Bool) (ea eb : Int) (XA XB : List UInt8)
    (FA : ∀ W, Below w.heap.size w W → Calls Tryd.prog 10 #[.agg C.toArray] W fun e w' => e = .returned (.bool true) ∧ Below W.heap.size W w')
    (FB : ∀ W, Below w.heap.size w W → Calls Tryd.prog 10 #[.agg D.toArray] W fun e w' => e = .returned (.bool true) ∧ Below W.heap.size W w')
    (SM : ∀ W, Below w.heap.size w W → Calls Tryd.prog 9 #[.agg C.toArray, .agg D.toArray] W fun e w' => e = .returned (.bool S) ∧ Below W.heap.size W w')
    (ES : ∀ W, Below w.heap.size w W → Calls Tryd.prog 11 #[.agg C.toArray, .agg D.toArray] W fun e w' => e = .returned (.bool S) ∧ Below W.heap.size W w')
    (EA : ∀ W, Below w.heap.size w W → Calls Tryd.prog 11 #[.agg C.toArray, .agg C.toArray] W fun e w' => e = .returned (.bool true) ∧ Below W.heap.size W w')
    (RA : ∀ W, Below w.heap.size w W → Calls Tryd.prog 12 #[.agg C.toArray] W fun e w' => e = .returned (.bool true) ∧ Below W.heap.size W w')
    (RB : ∀ W, Below w.heap.size w W → Calls Tryd.prog 12 #[.agg D.toArray] W fun e w' => e = .returned (.bool true) ∧ Below W.heap.size W w')
    (PA : ∀ W, Below w.heap.size w W → Calls Tryd.prog 13 #[.agg C.toArray] W fun e w' => ∃ A n c, e = .returned (.tuple #[.slice A n c, .int .i64 ea]) ∧ SliceIn w' w'.heap.size 1 A n c (bytesV XA) ∧ Below W.heap.size W w')
    (PB : ∀ W, Below w.heap.size w W → Calls Tryd.prog 13 #[.agg D.toArray] W fun e w' => ∃ A n c, e = .returned (.tuple #[.slice A n c, .int .i64 eb]) ∧ SliceIn w' w'.heap.size 1 A n c (bytesV XB) ∧ Below W.heap.size W w')
    (za : ¬ ea = 0)
    : Calls Tryd.prog 4 #[.agg C.toArray, .agg D.toArray] w fun e w' => e = .returned (.bool true) ∧ Below w.heap.size w w' := by
  obtain ⟨w2, hw2⟩ : ∃ W, (w.alloc (.cells C.toArray 33)).alloc (.cells D.toArray 33) = W := ⟨_, rfl⟩
  have B2 : Hid (Below w.heap.size w w2) := Lib.hid (by rw [← hw2]; exact ((Below.refl _ _).alloc (Nat.le_refl _) _).alloc (by simp) _)
  have R1 : RowAt w2 w.heap.size 33 C := by rw [← hw2]; exact (RowAt.new w 33 C).alloc _
  have R2 : RowAt w2 (w.heap.size + 1) 33 D := by
    rw [← hw2]
    have h := RowAt.new (w.alloc (.cells C.toArray 33)) 33 D
    rw [World.size_alloc] at h
    exact h
  have l1 := R1.lt
  have l2 := R2.lt
  have KA : Hid (∀ W, Below w2.heap.size w2 W → W.rangeAt w.heap.size 0 C) := Lib.hid (fun W hW => rangeOf (R1.below hW l1))
  have KB : Hid (∀ W, Below w2.heap.size w2 W → W.rangeAt (w.heap.size + 1) 0 D) := Lib.hid (fun W hW => rangeOf (R2.below hW l2))
  have BB : Hid (∀ W, Below w2.heap.size w2 W → Below w.heap.size w W) := Lib.hid (fun W hW => B2.out.trans (hW.mono B2.out.size))
  have DD : Hid (Below w2.heap.size w2 w2) := Lib.hid (Below.refl _ _)
  have HC : Hid ((Tryd.prog.info? 33).map (·.size) = some C.length) := Lib.hid (by rw [hC]; kernel_rfl)
  have HD : Hid ((Tryd.prog.info? 33).map (·.size) = some D.length) := Lib.hid (by rw [hD]; kernel_rfl)
  have AW := Lib.hid awake19_any
  clear R1 R2 l1 l2 hC hD
  replace FA := Lib.hid FA
  replace FB := Lib.hid FB
  replace SM := Lib.hid SM
  replace ES := Lib.hid ES
  replace EA := Lib.hid EA
  replace RA := Lib.hid RA
  replace RB := Lib.hid RB
  replace PA := Lib.hid PA
  replace PB := Lib.hid PB
  have nb : (ea != 0) = true := by rw [bne_iff_ne]; exact za
  have nb2 : (ea == 0) = false := by rw [beq_eq_false_iff_ne]; exact za
  clear za
  have nS : (S != S) = false := by simp
  have nS2 : (S == S) = true := by simp
  go_enter Tryd.func4, Tryd.ntmps4
  go_wp2_with (first
    | (refine wpList_load_g (by first | exact wanted_un rfl | exact wanted_yes rfl rfl rfl rfl) 33 _ rfl w.heap.size 0 rfl C _ (KA.out _ DD.out) Tryd.underlying33 rfl HC.out ?_)
    | (refine wpList_load_g (by first | exact wanted_un rfl | exact wanted_yes rfl rfl rfl rfl) 33 _ rfl (w.heap.size + 1) 0 rfl D _ (KB.out _ DD.out) Tryd.underlying33 rfl HD.out ?_)
    | (go_at_call 6; (with_reducible refine (AW.out _).mono ?_); rintro e wz ⟨rfl, rfl⟩)
    | (go_at_call 10; (with_reducible refine (FA.out _ (BB.out _ DD.out)).mono ?_); rintro e wn ⟨rfl, hb⟩; replace DD := Lib.hid (below_step DD.out hb); clear hb)
    | (go_at_call 10; (with_reducible refine (FB.out _ (BB.out _ DD.out)).mono ?_); rintro e wn ⟨rfl, hb⟩; replace DD := Lib.hid (below_step DD.out hb); clear hb)
    | (go_at_call 9; (with_reducible refine (SM.out _ (BB.out _ DD.out)).mono ?_); rintro e wn ⟨rfl, hb⟩; replace DD := Lib.hid (below_step DD.out hb); clear hb)
    | (go_at_call 11; (with_reducible refine (ES.out _ (BB.out _ DD.out)).mono ?_); rintro e wn ⟨rfl, hb⟩; replace DD := Lib.hid (below_step DD.out hb); clear hb)
    | (go_at_call 11; (with_reducible refine (EA.out _ (BB.out _ DD.out)).mono ?_); rintro e wn ⟨rfl, hb⟩; replace DD := Lib.hid (below_step DD.out hb); clear hb)
    | (go_at_call 12; (with_reducible refine (RA.out _ (BB.out _ DD.out)).mono ?_); rintro e wn ⟨rfl, hb⟩; replace DD := Lib.hid (below_step DD.out hb); clear hb)
    | (go_at_call 12; (with_reducible refine (RB.out _ (BB.out _ DD.out)).mono ?_); rintro e wn ⟨rfl, hb⟩; replace DD := Lib.hid (below_step DD.out hb); clear hb)
    | (go_at_call 13; (with_reducible refine (PA.out _ (BB.out _ DD.out)).mono ?_); rintro e wn ⟨A10, n10, c10, rfl, hs, hb⟩; replace DD := Lib.hid (below_step DD.out hb); have X10 := Lib.hid hs; clear hb hs)
    | (go_at_call 13; (with_reducible refine (PB.out _ (BB.out _ DD.out)).mono ?_); rintro e wn ⟨A11, n11, c11, rfl, hs, hb⟩; replace DD := Lib.hid (below_step DD.out hb); have X11 := Lib.hid hs; have Y10 := Lib.hid ((X10.out.below hb).more hb.size); clear hb hs))
  go_ret
  exact ⟨ret_bool (by simp), BB.out _ DD.out⟩
set_option maxHeartbeats 32000000 in
theorem esames_6 (C D : List Value) (hC : C.length = 15) (hD : D.length = 15) (w : World) (S : Bool) (eb : Int) (XA XB : List UInt8)
    (FA : ∀ W, Below w.heap.size w W → Calls Tryd.prog 10 #[.agg C.toArray] W fun e w' => e = .returned (.bool true) ∧ Below W.heap.size W w')
    (FB : ∀ W, Below w.heap.size w W → Calls Tryd.prog 10 #[.agg D.toArray] W fun e w' => e = .returned (.bool true) ∧ Below W.heap.size W w')
    (SM : ∀ W, Below w.heap.size w W → Calls Tryd.prog 9 #[.agg C.toArray, .agg D.toArray] W fun e w' => e = .returned (.bool S) ∧ Below W.heap.size W w')
    (ES : ∀ W, Below w.heap.size w W → Calls Tryd.prog 11 #[.agg C.toArray, .agg D.toArray] W fun e w' => e = .returned (.bool S) ∧ Below W.heap.size W w')
    (EA : ∀ W, Below w.heap.size w W → Calls Tryd.prog 11 #[.agg C.toArray, .agg C.toArray] W fun e w' => e = .returned (.bool true) ∧ Below W.heap.size W w')
    (RA : ∀ W, Below w.heap.size w W → Calls Tryd.prog 12 #[.agg C.toArray] W fun e w' => e = .returned (.bool true) ∧ Below W.heap.size W w')
    (RB : ∀ W, Below w.heap.size w W → Calls Tryd.prog 12 #[.agg D.toArray] W fun e w' => e = .returned (.bool true) ∧ Below W.heap.size W w')
    (PA : ∀ W, Below w.heap.size w W → Calls Tryd.prog 13 #[.agg C.toArray] W fun e w' => ∃ A n c, e = .returned (.tuple #[.slice A n c, .int .i64 0]) ∧ SliceIn w' w'.heap.size 1 A n c (bytesV XA) ∧ Below W.heap.size W w')
    (PB : ∀ W, Below w.heap.size w W → Calls Tryd.prog 13 #[.agg D.toArray] W fun e w' => ∃ A n c, e = .returned (.tuple #[.slice A n c, .int .i64 eb]) ∧ SliceIn w' w'.heap.size 1 A n c (bytesV XB) ∧ Below W.heap.size W w')
    (zb : ¬ eb = 0)
    : Calls Tryd.prog 4 #[.agg C.toArray, .agg D.toArray] w fun e w' => e = .returned (.bool true) ∧ Below w.heap.size w w' := by
  obtain ⟨w2, hw2⟩ : ∃ W, (w.alloc (.cells C.toArray 33)).alloc (.cells D.toArray 33) = W := ⟨_, rfl⟩
  have B2 : Hid (Below w.heap.size w w2) := Lib.hid (by rw [← hw2]; exact ((Below.refl _ _).alloc (Nat.le_refl _) _).alloc (by simp) _)
  have R1 : RowAt w2 w.heap.size 33 C := by rw [← hw2]; exact (RowAt.new w 33 C).alloc _
  have R2 : RowAt w2 (w.heap.size + 1) 33 D := by
    rw [← hw2]
    have h := RowAt.new (w.alloc (.cells C.toArray 33)) 33 D
    rw [World.size_alloc] at h
    exact h
  have l1 := R1.lt
  have l2 := R2.lt
  have KA : Hid (∀ W, Below w2.heap.size w2 W → W.rangeAt w.heap.size 0 C) := Lib.hid (fun W hW => rangeOf (R1.below hW l1))
  have KB : Hid (∀ W, Below w2.heap.size w2 W → W.rangeAt (w.heap.size + 1) 0 D) := Lib.hid (fun W hW => rangeOf (R2.below hW l2))
  have BB : Hid (∀ W, Below w2.heap.size w2 W → Below w.heap.size w W) := Lib.hid (fun W hW => B2.out.trans (hW.mono B2.out.size))
  have DD : Hid (Below w2.heap.size w2 w2) := Lib.hid (Below.refl _ _)
  have HC : Hid ((Tryd.prog.info? 33).map (·.size) = some C.length) := Lib.hid (by rw [hC]; kernel_rfl)
  have HD : Hid ((Tryd.prog.info? 33).map (·.size) = some D.length) := Lib.hid (by rw [hD]; kernel_rfl)
  have AW := Lib.hid awake19_any
  clear R1 R2 l1 l2 hC hD
  replace FA := Lib.hid FA
  replace FB := Lib.hid FB
  replace SM := Lib.hid SM
  replace ES := Lib.hid ES
  replace EA := Lib.hid EA
  replace RA := Lib.hid RA
  replace RB := Lib.hid RB
  replace PA := Lib.hid PA
  replace PB := Lib.hid PB
  have nb : (eb != 0) = true := by rw [bne_iff_ne]; exact zb
  have nb2 : (eb == 0) = false := by rw [beq_eq_false_iff_ne]; exact zb
  clear zb
  have nS : (S != S) = false := by simp
  have nS2 : (S == S) = true := by simp
  go_enter Tryd.func4, Tryd.ntmps4
  go_wp2_with (first
    | (refine wpList_load_g (by first | exact wanted_un rfl | exact wanted_yes rfl rfl rfl rfl) 33 _ rfl w.heap.size 0 rfl C _ (KA.out _ DD.out) Tryd.underlying33 rfl HC.out ?_)
    | (refine wpList_load_g (by first | exact wanted_un rfl | exact wanted_yes rfl rfl rfl rfl) 33 _ rfl (w.heap.size + 1) 0 rfl D _ (KB.out _ DD.out) Tryd.underlying33 rfl HD.out ?_)
    | (go_at_call 6; (with_reducible refine (AW.out _).mono ?_); rintro e wz ⟨rfl, rfl⟩)
    | (go_at_call 10; (with_reducible refine (FA.out _ (BB.out _ DD.out)).mono ?_); rintro e wn ⟨rfl, hb⟩; replace DD := Lib.hid (below_step DD.out hb); clear hb)
    | (go_at_call 10; (with_reducible refine (FB.out _ (BB.out _ DD.out)).mono ?_); rintro e wn ⟨rfl, hb⟩; replace DD := Lib.hid (below_step DD.out hb); clear hb)
    | (go_at_call 9; (with_reducible refine (SM.out _ (BB.out _ DD.out)).mono ?_); rintro e wn ⟨rfl, hb⟩; replace DD := Lib.hid (below_step DD.out hb); clear hb)
    | (go_at_call 11; (with_reducible refine (ES.out _ (BB.out _ DD.out)).mono ?_); rintro e wn ⟨rfl, hb⟩; replace DD := Lib.hid (below_step DD.out hb); clear hb)
    | (go_at_call 11; (with_reducible refine (EA.out _ (BB.out _ DD.out)).mono ?_); rintro e wn ⟨rfl, hb⟩; replace DD := Lib.hid (below_step DD.out hb); clear hb)
    | (go_at_call 12; (with_reducible refine (RA.out _ (BB.out _ DD.out)).mono ?_); rintro e wn ⟨rfl, hb⟩; replace DD := Lib.hid (below_step DD.out hb); clear hb)
    | (go_at_call 12; (with_reducible refine (RB.out _ (BB.out _ DD.out)).mono ?_); rintro e wn ⟨rfl, hb⟩; replace DD := Lib.hid (below_step DD.out hb); clear hb)
    | (go_at_call 13; (with_reducible refine (PA.out _ (BB.out _ DD.out)).mono ?_); rintro e wn ⟨A10, n10, c10, rfl, hs, hb⟩; replace DD := Lib.hid (below_step DD.out hb); have X10 := Lib.hid hs; clear hb hs)
    | (go_at_call 13; (with_reducible refine (PB.out _ (BB.out _ DD.out)).mono ?_); rintro e wn ⟨A11, n11, c11, rfl, hs, hb⟩; replace DD := Lib.hid (below_step DD.out hb); have X11 := Lib.hid hs; have Y10 := Lib.hid ((X10.out.below hb).more hb.size); clear hb hs))
  go_ret
  exact ⟨ret_bool (by simp), BB.out _ DD.out⟩
set_option maxHeartbeats 32000000 in
theorem esames_7 (C D : List Value) (hC : C.length = 15) (hD : D.length = 15) (w : World) (S : Bool) (XA XB : List UInt8)
    (FA : ∀ W, Below w.heap.size w W → Calls Tryd.prog 10 #[.agg C.toArray] W fun e w' => e = .returned (.bool true) ∧ Below W.heap.size W w')
    (FB : ∀ W, Below w.heap.size w W → Calls Tryd.prog 10 #[.agg D.toArray] W fun e w' => e = .returned (.bool true) ∧ Below W.heap.size W w')
    (SM : ∀ W, Below w.heap.size w W → Calls Tryd.prog 9 #[.agg C.toArray, .agg D.toArray] W fun e w' => e = .returned (.bool S) ∧ Below W.heap.size W w')
    (ES : ∀ W, Below w.heap.size w W → Calls Tryd.prog 11 #[.agg C.toArray, .agg D.toArray] W fun e w' => e = .returned (.bool S) ∧ Below W.heap.size W w')
    (EA : ∀ W, Below w.heap.size w W → Calls Tryd.prog 11 #[.agg C.toArray, .agg C.toArray] W fun e w' => e = .returned (.bool true) ∧ Below W.heap.size W w')
    (RA : ∀ W, Below w.heap.size w W → Calls Tryd.prog 12 #[.agg C.toArray] W fun e w' => e = .returned (.bool true) ∧ Below W.heap.size W w')
    (RB : ∀ W, Below w.heap.size w W → Calls Tryd.prog 12 #[.agg D.toArray] W fun e w' => e = .returned (.bool true) ∧ Below W.heap.size W w')
    (PA : ∀ W, Below w.heap.size w W → Calls Tryd.prog 13 #[.agg C.toArray] W fun e w' => ∃ A n c, e = .returned (.tuple #[.slice A n c, .int .i64 0]) ∧ SliceIn w' w'.heap.size 1 A n c (bytesV XA) ∧ Below W.heap.size W w')
    (PB : ∀ W, Below w.heap.size w W → Calls Tryd.prog 13 #[.agg D.toArray] W fun e w' => ∃ A n c, e = .returned (.tuple #[.slice A n c, .int .i64 0]) ∧ SliceIn w' w'.heap.size 1 A n c (bytesV XB) ∧ Below W.heap.size W w')
    (fin : (XA == XB) = S)
    : Calls Tryd.prog 4 #[.agg C.toArray, .agg D.toArray] w fun e w' => e = .returned (.bool true) ∧ Below w.heap.size w w' := by
  obtain ⟨w2, hw2⟩ : ∃ W, (w.alloc (.cells C.toArray 33)).alloc (.cells D.toArray 33) = W := ⟨_, rfl⟩
  have B2 : Hid (Below w.heap.size w w2) := Lib.hid (by rw [← hw2]; exact ((Below.refl _ _).alloc (Nat.le_refl _) _).alloc (by simp) _)
  have R1 : RowAt w2 w.heap.size 33 C := by rw [← hw2]; exact (RowAt.new w 33 C).alloc _
  have R2 : RowAt w2 (w.heap.size + 1) 33 D := by
    rw [← hw2]
    have h := RowAt.new (w.alloc (.cells C.toArray 33)) 33 D
    rw [World.size_alloc] at h
    exact h
  have l1 := R1.lt
  have l2 := R2.lt
  have KA : Hid (∀ W, Below w2.heap.size w2 W → W.rangeAt w.heap.size 0 C) := Lib.hid (fun W hW => rangeOf (R1.below hW l1))
  have KB : Hid (∀ W, Below w2.heap.size w2 W → W.rangeAt (w.heap.size + 1) 0 D) := Lib.hid (fun W hW => rangeOf (R2.below hW l2))
  have BB : Hid (∀ W, Below w2.heap.size w2 W → Below w.heap.size w W) := Lib.hid (fun W hW => B2.out.trans (hW.mono B2.out.size))
  have DD : Hid (Below w2.heap.size w2 w2) := Lib.hid (Below.refl _ _)
  have HC : Hid ((Tryd.prog.info? 33).map (·.size) = some C.length) := Lib.hid (by rw [hC]; kernel_rfl)
  have HD : Hid ((Tryd.prog.info? 33).map (·.size) = some D.length) := Lib.hid (by rw [hD]; kernel_rfl)
  have AW := Lib.hid awake19_any
  clear R1 R2 l1 l2 hC hD
  replace FA := Lib.hid FA
  replace FB := Lib.hid FB
  replace SM := Lib.hid SM
  replace ES := Lib.hid ES
  replace EA := Lib.hid EA
  replace RA := Lib.hid RA
  replace RB := Lib.hid RB
  replace PA := Lib.hid PA
  replace PB := Lib.hid PB
  have hxx : ((⟨XA.toArray⟩ : ByteArray).toList == (⟨XB.toArray⟩ : ByteArray).toList) = S := by rw [toList_mk, toList_mk]; exact fin
  obtain ⟨SA, hSA⟩ : ∃ s : ByteArray, (⟨XA.toArray⟩ : ByteArray) = s := ⟨_, rfl⟩
  obtain ⟨SB, hSB⟩ : ∃ s : ByteArray, (⟨XB.toArray⟩ : ByteArray) = s := ⟨_, rfl⟩
  rw [hSA, hSB] at hxx
  have HSA := Lib.hid hSA
  have HSB := Lib.hid hSB
  clear hSA hSB fin
  have nS : (S != S) = false := by simp
  have nS2 : (S == S) = true := by simp
  go_enter Tryd.func4, Tryd.ntmps4
  go_wp2_with (first
    | (refine wpList_load_g (by first | exact wanted_un rfl | exact wanted_yes rfl rfl rfl rfl) 33 _ rfl w.heap.size 0 rfl C _ (KA.out _ DD.out) Tryd.underlying33 rfl HC.out ?_)
    | (refine wpList_load_g (by first | exact wanted_un rfl | exact wanted_yes rfl rfl rfl rfl) 33 _ rfl (w.heap.size + 1) 0 rfl D _ (KB.out _ DD.out) Tryd.underlying33 rfl HD.out ?_)
    | (go_at_call 6; (with_reducible refine (AW.out _).mono ?_); rintro e wz ⟨rfl, rfl⟩)
    | (go_at_call 10; (with_reducible refine (FA.out _ (BB.out _ DD.out)).mono ?_); rintro e wn ⟨rfl, hb⟩; replace DD := Lib.hid (below_step DD.out hb); clear hb)
    | (go_at_call 10; (with_reducible refine (FB.out _ (BB.out _ DD.out)).mono ?_); rintro e wn ⟨rfl, hb⟩; replace DD := Lib.hid (below_step DD.out hb); clear hb)
    | (go_at_call 9; (with_reducible refine (SM.out _ (BB.out _ DD.out)).mono ?_); rintro e wn ⟨rfl, hb⟩; replace DD := Lib.hid (below_step DD.out hb); clear hb)
    | (go_at_call 11; (with_reducible refine (ES.out _ (BB.out _ DD.out)).mono ?_); rintro e wn ⟨rfl, hb⟩; replace DD := Lib.hid (below_step DD.out hb); clear hb)
    | (go_at_call 11; (with_reducible refine (EA.out _ (BB.out _ DD.out)).mono ?_); rintro e wn ⟨rfl, hb⟩; replace DD := Lib.hid (below_step DD.out hb); clear hb)
    | (go_at_call 12; (with_reducible refine (RA.out _ (BB.out _ DD.out)).mono ?_); rintro e wn ⟨rfl, hb⟩; replace DD := Lib.hid (below_step DD.out hb); clear hb)
    | (go_at_call 12; (with_reducible refine (RB.out _ (BB.out _ DD.out)).mono ?_); rintro e wn ⟨rfl, hb⟩; replace DD := Lib.hid (below_step DD.out hb); clear hb)
    | (go_at_call 13; (with_reducible refine (PA.out _ (BB.out _ DD.out)).mono ?_); rintro e wn ⟨A10, n10, c10, rfl, hs, hb⟩; replace DD := Lib.hid (below_step DD.out hb); have X10 := Lib.hid hs; clear hb hs)
    | (go_at_call 13; (with_reducible refine (PB.out _ (BB.out _ DD.out)).mono ?_); rintro e wn ⟨A11, n11, c11, rfl, hs, hb⟩; replace DD := Lib.hid (below_step DD.out hb); have X11 := Lib.hid hs; have Y10 := Lib.hid ((X10.out.below hb).more hb.size); have q1 := run_string_of (P := Tryd.prog) Y10.out 22 9 5 Tryd.underlying22 Tryd.underlying5 Tryd.underlying9; have q2 := run_string_of (P := Tryd.prog) X11.out 22 9 5 Tryd.underlying22 Tryd.underlying5 Tryd.underlying9; rw [HSA.out] at q1; rw [HSB.out] at q2; clear hb hs))
  go_ret
  exact ⟨ret_bool (by simp), BB.out _ DD.out⟩
end Go.Proofs.YtkodeeneljkgeaaDoor
