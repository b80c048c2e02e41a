/- Layer 19's laws: EntryPacks, walked. Condition: the entry's own. Printed by mklaw19p.py. -/
import Derived.Test.YtkodeeneljkgeaaDoorEc
import Derived.Test.YtkodeeneljkgeaaDoorEs
namespace Go.Proofs.YtkodeeneljkgeaaDoor
open Go.RowKit IH
set_option maxRecDepth 100000
set_option maxHeartbeats 32000000 in
theorem epacks_1 (C : List Value) (hC : C.length = 15) (w : World)
    (FA : ∀ W, Below w.heap.size w W → Calls Tryd.prog 10 #[.agg C.toArray] W fun e w' => e = .returned (.bool false) ∧ Below W.heap.size W w')
    : Calls Tryd.prog 5 #[.agg C.toArray] w fun e w' => e = .returned (.bool true) ∧ Below w.heap.size w w' := by
  obtain ⟨w2, hw2⟩ : ∃ W, w.alloc (.cells C.toArray 33) = W := ⟨_, rfl⟩
  have B2 : Hid (Below w.heap.size w w2) := Lib.hid (by rw [← hw2]; exact (Below.refl _ _).alloc (Nat.le_refl _) _)
  have R1 : RowAt w2 w.heap.size 33 C := by rw [← hw2]; exact RowAt.new w 33 C
  have l1 := R1.lt
  have KA : Hid (∀ W, Below w2.heap.size w2 W → W.rangeAt w.heap.size 0 C) := Lib.hid (fun W hW => rangeOf (R1.below hW l1))
  have BB : Hid (∀ W, Below w2.heap.size w2 W → Below w.heap.size w W) := Lib.hid (fun W hW => B2.out.trans (hW.mono B2.out.size))
  have DD : Hid (Below w2.heap.size w2 w2) := Lib.hid (Below.refl _ _)
  have HC : Hid ((Tryd.prog.info? 33).map (·.size) = some C.length) := Lib.hid (by rw [hC]; kernel_rfl)
  have AW := Lib.hid awake19_any
  clear R1 l1 hC
  replace FA := Lib.hid FA
  go_enter Tryd.func5, Tryd.ntmps5
  go_wp2_with (first
    | (refine wpList_load_g (by first | exact wanted_un rfl | exact wanted_yes rfl rfl rfl rfl | exact (wanted_is rfl rfl rfl rfl).trans (by simp; omega)) 33 _ rfl w.heap.size 0 rfl C _ (KA.out _ DD.out) Tryd.underlying33 rfl HC.out ?_)
    | (go_at_call 6; (with_reducible refine (AW.out _).mono ?_); rintro e wz ⟨rfl, rfl⟩)
    | (go_at_call 10; (with_reducible refine (FA.out _ (BB.out _ DD.out)).mono ?_); rintro e wn ⟨rfl, hb⟩; replace DD := Lib.hid (below_step DD.out hb); clear hb))
  go_ret
  exact ⟨ret_bool (by simp), BB.out _ DD.out⟩
set_option maxHeartbeats 32000000 in
theorem epacks_2 (C : List Value) (hC : C.length = 15) (w : World)
    (FA : ∀ W, Below w.heap.size w W → Calls Tryd.prog 10 #[.agg C.toArray] W fun e w' => e = .returned (.bool true) ∧ Below W.heap.size W w')
    (RA : ∀ W, Below w.heap.size w W → Calls Tryd.prog 12 #[.agg C.toArray] W fun e w' => e = .returned (.bool false) ∧ Below W.heap.size W w')
    (PN : ∀ W, Below w.heap.size w W → Calls Tryd.prog 13 #[.agg C.toArray] W fun e w' => e = .returned (.tuple #[.slice none 0 0, .int .i64 10]) ∧ Below W.heap.size W w')
    (ER : ∀ W, Below w.heap.size w W → Calls Tryd.prog 14 #[.agg C.toArray] W fun e w' => e = .returned (.bool false) ∧ Below W.heap.size W w')
    : Calls Tryd.prog 5 #[.agg C.toArray] w fun e w' => e = .returned (.bool true) ∧ Below w.heap.size w w' := by
  obtain ⟨w2, hw2⟩ : ∃ W, w.alloc (.cells C.toArray 33) = W := ⟨_, rfl⟩
  have B2 : Hid (Below w.heap.size w w2) := Lib.hid (by rw [← hw2]; exact (Below.refl _ _).alloc (Nat.le_refl _) _)
  have R1 : RowAt w2 w.heap.size 33 C := by rw [← hw2]; exact RowAt.new w 33 C
  have l1 := R1.lt
  have KA : Hid (∀ W, Below w2.heap.size w2 W → W.rangeAt w.heap.size 0 C) := Lib.hid (fun W hW => rangeOf (R1.below hW l1))
  have BB : Hid (∀ W, Below w2.heap.size w2 W → Below w.heap.size w W) := Lib.hid (fun W hW => B2.out.trans (hW.mono B2.out.size))
  have DD : Hid (Below w2.heap.size w2 w2) := Lib.hid (Below.refl _ _)
  have HC : Hid ((Tryd.prog.info? 33).map (·.size) = some C.length) := Lib.hid (by rw [hC]; kernel_rfl)
  have AW := Lib.hid awake19_any
  clear R1 l1 hC
  replace FA := Lib.hid FA
  replace RA := Lib.hid RA
  replace PN := Lib.hid PN
  replace ER := Lib.hid ER
  go_enter Tryd.func5, Tryd.ntmps5
  go_wp2_with (first
    | (refine wpList_load_g (by first | exact wanted_un rfl | exact wanted_yes rfl rfl rfl rfl | exact (wanted_is rfl rfl rfl rfl).trans (by simp; omega)) 33 _ rfl w.heap.size 0 rfl C _ (KA.out _ DD.out) Tryd.underlying33 rfl HC.out ?_)
    | (go_at_call 6; (with_reducible refine (AW.out _).mono ?_); rintro e wz ⟨rfl, rfl⟩)
    | (go_at_call 10; (with_reducible refine (FA.out _ (BB.out _ DD.out)).mono ?_); rintro e wn ⟨rfl, hb⟩; replace DD := Lib.hid (below_step DD.out hb); clear hb)
    | (go_at_call 12; (with_reducible refine (RA.out _ (BB.out _ DD.out)).mono ?_); rintro e wn ⟨rfl, hb⟩; replace DD := Lib.hid (below_step DD.out hb); clear hb)
    | (go_at_call 13; (with_reducible refine (PN.out _ (BB.out _ DD.out)).mono ?_); rintro e wn ⟨rfl, hb⟩; replace DD := Lib.hid (below_step DD.out hb); clear hb)
    | (go_at_call 14; (with_reducible refine (ER.out _ (BB.out _ DD.out)).mono ?_); rintro e wn ⟨rfl, hb⟩; replace DD := Lib.hid (below_step DD.out hb); clear hb))
  go_ret
  exact ⟨ret_bool (by simp), BB.out _ DD.out⟩
set_option maxHeartbeats 32000000 in
theorem epacks_3 (C : List Value) (hC : C.length = 15) (w : World) (X : List UInt8)
    (FA : ∀ W, Below w.heap.size w W → Calls Tryd.prog 10 #[.agg C.toArray] W fun e w' => e = .returned (.bool true) ∧ Below W.heap.size W w')
    (RA : ∀ W, Below w.heap.size w W → Calls Tryd.prog 12 #[.agg C.toArray] W fun e w' => e = .returned (.bool true) ∧ Below W.heap.size W w')
    (PN : ∀ W, Below w.heap.size w W → Calls Tryd.prog 13 #[.agg C.toArray] W fun e w' => e = .returned (.tuple #[.slice none 0 0, .int .i64 12]) ∧ Below W.heap.size W w')
    (ER : ∀ W, Below w.heap.size w W → Calls Tryd.prog 14 #[.agg C.toArray] W fun e w' => e = .returned (.bool true) ∧ Below W.heap.size W w')
    (RP : ∀ W, Below w.heap.size w W → Calls Tryd.prog 15 #[.agg C.toArray] W fun e w' => ∃ A c, e = .returned (.slice A X.length c) ∧ SliceIn w' w'.heap.size 1 A X.length c (bytesV X) ∧ Below W.heap.size W w')
    (hl : (8000 : Int) < (X.length : Int))
    : Calls Tryd.prog 5 #[.agg C.toArray] w fun e w' => e = .returned (.bool true) ∧ Below w.heap.size w w' := by
  obtain ⟨w2, hw2⟩ : ∃ W, w.alloc (.cells C.toArray 33) = W := ⟨_, rfl⟩
  have B2 : Hid (Below w.heap.size w w2) := Lib.hid (by rw [← hw2]; exact (Below.refl _ _).alloc (Nat.le_refl _) _)
  have R1 : RowAt w2 w.heap.size 33 C := by rw [← hw2]; exact RowAt.new w 33 C
  have l1 := R1.lt
  have KA : Hid (∀ W, Below w2.heap.size w2 W → W.rangeAt w.heap.size 0 C) := Lib.hid (fun W hW => rangeOf (R1.below hW l1))
  have BB : Hid (∀ W, Below w2.heap.size w2 W → Below w.heap.size w W) := Lib.hid (fun W hW => B2.out.trans (hW.mono B2.out.size))
  have DD : Hid (Below w2.heap.size w2 w2) := Lib.hid (Below.refl _ _)
  have HC : Hid ((Tryd.prog.info? 33).map (·.size) = some C.length) := Lib.hid (by rw [hC]; kernel_rfl)
  have AW := Lib.hid awake19_any
  clear R1 l1 hC
  replace FA := Lib.hid FA
  replace RA := Lib.hid RA
  replace PN := Lib.hid PN
  replace ER := Lib.hid ER
  replace RP := Lib.hid RP
  go_enter Tryd.func5, Tryd.ntmps5
  go_wp2_with (first
    | (refine wpList_load_g (by first | exact wanted_un rfl | exact wanted_yes rfl rfl rfl rfl | exact (wanted_is rfl rfl rfl rfl).trans (by simp; omega)) 33 _ rfl w.heap.size 0 rfl C _ (KA.out _ DD.out) Tryd.underlying33 rfl HC.out ?_)
    | (go_at_call 6; (with_reducible refine (AW.out _).mono ?_); rintro e wz ⟨rfl, rfl⟩)
    | (go_at_call 10; (with_reducible refine (FA.out _ (BB.out _ DD.out)).mono ?_); rintro e wn ⟨rfl, hb⟩; replace DD := Lib.hid (below_step DD.out hb); clear hb)
    | (go_at_call 12; (with_reducible refine (RA.out _ (BB.out _ DD.out)).mono ?_); rintro e wn ⟨rfl, hb⟩; replace DD := Lib.hid (below_step DD.out hb); clear hb)
    | (go_at_call 13; (with_reducible refine (PN.out _ (BB.out _ DD.out)).mono ?_); rintro e wn ⟨rfl, hb⟩; replace DD := Lib.hid (below_step DD.out hb); clear hb)
    | (go_at_call 14; (with_reducible refine (ER.out _ (BB.out _ DD.out)).mono ?_); rintro e wn ⟨rfl, hb⟩; replace DD := Lib.hid (below_step DD.out hb); clear hb)
    | (go_at_call 15; (with_reducible refine (RP.out _ (BB.out _ DD.out)).mono ?_); rintro e wn ⟨A2, c2, rfl, hs, hb⟩; replace DD := Lib.hid (below_step DD.out hb); clear hb hs))
  go_ret
  exact ⟨ret_bool (by simp), BB.out _ DD.out⟩
set_option maxHeartbeats 32000000 in
theorem epacks_4 (C : List Value) (hC : C.length = 15) (w : World) (X : List UInt8) (G : List Value → World → Prop)
    (FA : ∀ W, Below w.heap.size w W → Calls Tryd.prog 10 #[.agg C.toArray] W fun e w' => e = .returned (.bool true) ∧ Below W.heap.size W w')
    (RA : ∀ W, Below w.heap.size w W → Calls Tryd.prog 12 #[.agg C.toArray] W fun e w' => e = .returned (.bool true) ∧ Below W.heap.size W w')
    (PK : ∀ W, Below w.heap.size w W → Calls Tryd.prog 13 #[.agg C.toArray] W fun e w' => ∃ A c, e = .returned (.tuple #[.slice A X.length c, .int .i64 0]) ∧ SliceIn w' w'.heap.size 1 A X.length c (bytesV X) ∧ Below W.heap.size W w')
    (ER : ∀ W, Below w.heap.size w W → Calls Tryd.prog 14 #[.agg C.toArray] W fun e w' => e = .returned (.bool true) ∧ Below W.heap.size W w')
    (RP : ∀ W, Below w.heap.size w W → Calls Tryd.prog 15 #[.agg C.toArray] W fun e w' => ∃ A c, e = .returned (.slice A X.length c) ∧ SliceIn w' w'.heap.size 1 A X.length c (bytesV X) ∧ Below W.heap.size W w')
    (UN : ∀ W A c, Below w.heap.size w W → SliceIn W W.heap.size 1 A X.length c (bytesV X) → Calls Tryd.prog 7 #[.slice A X.length c] W fun e w' => ∃ D, e = .returned (.tuple #[.agg D.toArray, .int .i64 0]) ∧ G D w' ∧ D.length = 15 ∧ (∀ v ∈ D, v.oneCell' = true) ∧ Below W.heap.size W w')
    (GB : ∀ D W W', G D W → Below W.heap.size W W' → G D W')
    (SM : ∀ W D, Below w.heap.size w W → G D W → Calls Tryd.prog 9 #[.agg D.toArray, .agg C.toArray] W fun e w' => e = .returned (.bool true) ∧ Below W.heap.size W w')
    (ES : ∀ W D, Below w.heap.size w W → G D W → Calls Tryd.prog 11 #[.agg D.toArray, .agg C.toArray] W fun e w' => e = .returned (.bool true) ∧ Below W.heap.size W w')
    (hl : ¬ (8000 : Int) < (X.length : Int))
    : Calls Tryd.prog 5 #[.agg C.toArray] w fun e w' => e = .returned (.bool true) ∧ Below w.heap.size w w' := by
  obtain ⟨w2, hw2⟩ : ∃ W, w.alloc (.cells C.toArray 33) = W := ⟨_, rfl⟩
  have B2 : Hid (Below w.heap.size w w2) := Lib.hid (by rw [← hw2]; exact (Below.refl _ _).alloc (Nat.le_refl _) _)
  have R1 : RowAt w2 w.heap.size 33 C := by rw [← hw2]; exact RowAt.new w 33 C
  have l1 := R1.lt
  have KA : Hid (∀ W, Below w2.heap.size w2 W → W.rangeAt w.heap.size 0 C) := Lib.hid (fun W hW => rangeOf (R1.below hW l1))
  have BB : Hid (∀ W, Below w2.heap.size w2 W → Below w.heap.size w W) := Lib.hid (fun W hW => B2.out.trans (hW.mono B2.out.size))
  have DD : Hid (Below w2.heap.size w2 w2) := Lib.hid (Below.refl _ _)
  have HC : Hid ((Tryd.prog.info? 33).map (·.size) = some C.length) := Lib.hid (by rw [hC]; kernel_rfl)
  have AW := Lib.hid awake19_any
  clear R1 l1 hC
  replace FA := Lib.hid FA
  replace RA := Lib.hid RA
  replace PK := Lib.hid PK
  replace ER := Lib.hid ER
  replace RP := Lib.hid RP
  replace UN := Lib.hid UN
  replace GB := Lib.hid GB
  replace SM := Lib.hid SM
  replace ES := Lib.hid ES
  obtain ⟨SX, hSX⟩ : ∃ s : ByteArray, (⟨X.toArray⟩ : ByteArray) = s := ⟨_, rfl⟩
  have HSX := Lib.hid hSX
  clear hSX
  go_enter Tryd.func5, Tryd.ntmps5
  go_wp2_with (first
    | (refine wpList_load_g (by first | exact wanted_un rfl | exact wanted_yes rfl rfl rfl rfl | exact (wanted_is rfl rfl rfl rfl).trans (by simp; omega)) 33 _ rfl w.heap.size 0 rfl C _ (KA.out _ DD.out) Tryd.underlying33 rfl HC.out ?_)
    | (go_at_call 6; (with_reducible refine (AW.out _).mono ?_); rintro e wz ⟨rfl, rfl⟩)
    | (go_at_call 10; (with_reducible refine (FA.out _ (BB.out _ DD.out)).mono ?_); rintro e wn ⟨rfl, hb⟩; replace DD := Lib.hid (below_step DD.out hb); clear hb)
    | (go_at_call 12; (with_reducible refine (RA.out _ (BB.out _ DD.out)).mono ?_); rintro e wn ⟨rfl, hb⟩; replace DD := Lib.hid (below_step DD.out hb); clear hb)
    | (go_at_call 13; (with_reducible refine (PK.out _ (BB.out _ DD.out)).mono ?_); rintro e wn ⟨A1, c1, rfl, hs, hb⟩; replace DD := Lib.hid (below_step DD.out hb); have X1 := Lib.hid hs; clear hb hs)
    | (go_at_call 14; (with_reducible refine (ER.out _ (BB.out _ DD.out)).mono ?_); rintro e wn ⟨rfl, hb⟩; replace DD := Lib.hid (below_step DD.out hb); replace X1 := Lib.hid ((X1.out.below hb).more hb.size); clear hb)
    | (go_at_call 15; (with_reducible refine (RP.out _ (BB.out _ DD.out)).mono ?_); rintro e wn ⟨A2, c2, rfl, hs, hb⟩; replace DD := Lib.hid (below_step DD.out hb); replace X1 := Lib.hid ((X1.out.below hb).more hb.size); have X2 := Lib.hid hs; clear hb hs)
    | (go_at_call 7; (with_reducible refine (UN.out _ _ _ (BB.out _ DD.out) X1.out).mono ?_); rintro e wn ⟨D, rfl, hg, hD, hD1, hb⟩
       replace DD := Lib.hid (below_step DD.out hb)
       replace X1 := Lib.hid ((X1.out.below hb).more hb.size)
       replace X2 := Lib.hid ((X2.out.below hb).more hb.size)
       have GD := Lib.hid hg
       have HD := Lib.hid hD
       have HD1 := Lib.hid hD1
       have HDi : Hid ((Tryd.prog.info? 33).map (·.size) = some D.length) := Lib.hid (by rw [hD]; kernel_rfl)
       have tokA : True := trivial
       clear hb hg hD hD1)
    | (have _t := tokA; refine wpList_store_row rfl 33 _ _ rfl wn.heap.size _ D [.string ⟨#[]⟩, .slice none 0 0, .string ⟨#[]⟩, .string ⟨#[]⟩, .string ⟨#[]⟩, .int .i64 0, .string ⟨#[]⟩, .int .i64 0, .slice none 0 0, .int .i64 0, .int .i64 0, .int .i64 0, .int .i64 0, .int .u32 0, .slice none 0 0] rfl rfl (RowAt.new wn 33 _) (by rw [HD.out]; rfl) HDi.out HD1.out ?_; intro wo hro hoo
       have hbo := hoo.below ((Below.refl wn.heap.size wn).alloc (Nat.le_refl _) _) (Nat.le_refl _)
       replace DD := Lib.hid (below_step DD.out hbo)
       replace X1 := Lib.hid ((X1.out.below hbo).more hbo.size)
       replace X2 := Lib.hid ((X2.out.below hbo).more hbo.size)
       replace GD := Lib.hid (GB.out _ _ _ GD.out hbo)
       have RX := Lib.hid hro
       have q1 := run_string_of (P := Tryd.prog) X1.out 22 9 5 Tryd.underlying22 Tryd.underlying5 Tryd.underlying9
       have q2 := run_string_of (P := Tryd.prog) X2.out 22 9 5 Tryd.underlying22 Tryd.underlying5 Tryd.underlying9
       rw [HSX.out] at q1 q2
       clear hro hoo hbo tokA _t)
    | (refine wpList_load_g (by first | exact wanted_un rfl | exact wanted_yes rfl rfl rfl rfl | exact (wanted_is rfl rfl rfl rfl).trans (by simp; omega)) 33 _ rfl wn.heap.size 0 rfl D _ (rangeOf RX.out) Tryd.underlying33 rfl HDi.out ?_)
    | (go_at_call 9; (with_reducible refine (SM.out _ _ (BB.out _ DD.out) GD.out).mono ?_); rintro e wp ⟨rfl, hb⟩; replace DD := Lib.hid (below_step DD.out hb); replace RX := Lib.hid (RX.out.below hb RX.out.lt); replace GD := Lib.hid (GB.out _ _ _ GD.out hb); clear hb)
    | (go_at_call 11; (with_reducible refine (ES.out _ _ (BB.out _ DD.out) GD.out).mono ?_); rintro e wp ⟨rfl, hb⟩; replace DD := Lib.hid (below_step DD.out hb); replace RX := Lib.hid (RX.out.below hb RX.out.lt); replace GD := Lib.hid (GB.out _ _ _ GD.out hb); clear hb))
  go_ret
  exact ⟨ret_bool (by simp), BB.out _ DD.out⟩
end Go.Proofs.YtkodeeneljkgeaaDoor
