/- Layer 8's laws: MessagePrints, walked. Condition: the world's shape. Printed by mklaw08g.py. -/
import Derived.Test.YteocdpkenlkmbaaGreatDoorMpr
import Derived.Test.YteocdpkenlkmbaaGreatDoorPb
import Derived.Test.YteocdpkenlkmbaaGreatDoorKt
namespace Go.Proofs.YteocdpkenlkmbaaGreatDoor
open Go.RowKit IH
set_option maxRecDepth 100000
theorem row_past {w w' : World} {g base size n : Nat} {t e : TypeId} {cs xs : List Value} {v : Value} (h : RowAt w g t cs) (hg : w.grownBy w' v.ownBlock) (hown : w.ownsRow base e size v n xs) (hne : t ≠ e) : RowAt w' g t cs :=
  h.keep (hg.block g h.lt (fun he => ne_type hown h hne g he.symm rfl))
theorem list7p {l : List Value} (h : l.length = 7) : ∃ a0 a1 a2 a3 a4 a5 a6, l = [a0, a1, a2, a3, a4, a5, a6] := by
  match l, h with
  | [a0, a1, a2, a3, a4, a5, a6], _ => exact ⟨a0, a1, a2, a3, a4, a5, a6, rfl⟩
theorem own_addr {w : World} {B : Nat} {e : TypeId} {g g' : Nat} (h : w.ownsRow B e 1 (.slice (some ⟨g, 0, none⟩) 0 0) 0 []) (hg : g = g') : w.ownsRow B e 1 (.slice (some ⟨g', 0, none⟩) 0 0) 0 [] := hg ▸ h
theorem own_lit0 {a W : World} {B : Nat} (_h : Hid (Below B a W)) (hB : B ≤ W.heap.size) (e : TypeId) : (W.alloc (.cells #[] e)).ownsRow B e 1 (.slice (some ⟨W.heap.size, 0, none⟩) 0 0) 0 [] :=
  World.ownsRow_lit (base := B) (e := e) (size := 1) W #[] 0 hB (by simp [maxLen]) rfl
set_option maxHeartbeats 64000000 in
theorem mp8_far1 (C : List Value) (hC : RightC C) (st : Int) (ha : C[2]? = some (.int .i64 st)) (A : Option Addr) (n c : Nat) (M : ByteArray) (w : World)
    (AW : ∀ W, Below w.heap.size w W → Calls Tryz.prog 21 #[] W fun e w' => e = .returned (.bool true) ∧ Below W.heap.size W w')
    (SA : ∀ W, Below w.heap.size w W → Calls Tryz.prog 28 #[.agg C.toArray, .string M] W fun e w' => e = .returned (.bool false) ∧ Below W.heap.size W w') :
    Calls Tryz.prog 12 #[.agg C.toArray, .string M, .slice A n c] w fun e w' => e = .returned (.bool true) ∧ Below w.heap.size w w' := by
  have HMi : Hid ((Tryz.prog.info? 49).map (·.size) = some 7) := Lib.hid (by kernel_rfl)
  obtain ⟨w1, hw1⟩ : ∃ W : World, w.alloc (.cells C.toArray 49) = W := ⟨_, rfl⟩
  have B1 : Hid (Below w.heap.size w w1) := Lib.hid (by rw [← hw1]; exact (Below.refl _ _).alloc (Nat.le_refl _) _)
  have Ra1 : Hid (RowAt w1 w.heap.size 49 C) := Lib.hid (by rw [← hw1]; exact RowAt.new w 49 C)
  have HCi : Hid ((Tryz.prog.info? 49).map (·.size) = some C.length) := Lib.hid (by rw [hC.1]; exact HMi.out)
  have C7 := Lib.hid hC.1
  have HcA := Lib.hid ha
  have tok1 : Hid True := Lib.hid trivial
  clear hC ha
  replace AW := Lib.hid AW
  replace SA := Lib.hid SA
  go_enter Tryz.func12, Tryz.ntmps12
  go_wp2_with (first
    | (have _t := tok1; go_at_call 21; (with_reducible refine (AW.out _ B1.out).mono ?_); rintro e w2 ⟨rfl, hb2⟩; have B2 := Lib.hid (below_step B1.out hb2); have Ra2 := Lib.hid (Ra1.out.below hb2 Ra1.out.lt); have tok2 : Hid True := Lib.hid trivial; clear hb2 tok1 _t)
    | (have _t := tok2; refine wpList_load_g (by first | exact wanted_un rfl | exact wanted_yes rfl rfl rfl rfl | exact (wanted_is rfl rfl rfl rfl).trans (by simp; omega) | exact (wanted_is rfl rfl rfl rfl).trans (by simp)) 49 _ rfl w.heap.size 0 rfl C _ (rangeOf Ra2.out) Tryz.underlying49 rfl HCi.out ?_)
    | (have _t := tok2; go_at_call 28; (with_reducible refine (SA.out _ B2.out).mono ?_); rintro e w3 ⟨rfl, hb3⟩; have B3 := Lib.hid (below_step B2.out hb3); have Ra3 := Lib.hid (Ra2.out.below hb3 Ra2.out.lt); have tok3 : Hid True := Lib.hid trivial; clear hb3 tok2 _t)
    | (have _t := tok3; go_at_call 21; (with_reducible refine (AW.out _ B3.out).mono ?_); rintro e w4 ⟨rfl, hb4⟩; have B4 := Lib.hid (below_step B3.out hb4); have Ra4 := Lib.hid (Ra3.out.below hb4 Ra3.out.lt); have tok4 : Hid True := Lib.hid trivial; clear hb4 tok3 _t))
  go_ret
  exact ⟨rfl, B4.out⟩
set_option maxHeartbeats 64000000 in
theorem mp8_far2 (C : List Value) (hC : RightC C) (st : Int) (ha : C[2]? = some (.int .i64 st)) (A : Option Addr) (n c : Nat) (M : ByteArray) (w : World) (hn : 300 < n)
    (AW : ∀ W, Below w.heap.size w W → Calls Tryz.prog 21 #[] W fun e w' => e = .returned (.bool true) ∧ Below W.heap.size W w')
    (SA : ∀ W, Below w.heap.size w W → Calls Tryz.prog 28 #[.agg C.toArray, .string M] W fun e w' => e = .returned (.bool true) ∧ Below W.heap.size W w') :
    Calls Tryz.prog 12 #[.agg C.toArray, .string M, .slice A n c] w fun e w' => e = .returned (.bool true) ∧ Below w.heap.size w w' := by
  have HMi : Hid ((Tryz.prog.info? 49).map (·.size) = some 7) := Lib.hid (by kernel_rfl)
  obtain ⟨w1, hw1⟩ : ∃ W : World, w.alloc (.cells C.toArray 49) = W := ⟨_, rfl⟩
  have B1 : Hid (Below w.heap.size w w1) := Lib.hid (by rw [← hw1]; exact (Below.refl _ _).alloc (Nat.le_refl _) _)
  have Ra1 : Hid (RowAt w1 w.heap.size 49 C) := Lib.hid (by rw [← hw1]; exact RowAt.new w 49 C)
  have HCi : Hid ((Tryz.prog.info? 49).map (·.size) = some C.length) := Lib.hid (by rw [hC.1]; exact HMi.out)
  have C7 := Lib.hid hC.1
  have HcA := Lib.hid ha
  have tok1 : Hid True := Lib.hid trivial
  clear hC ha
  replace AW := Lib.hid AW
  replace SA := Lib.hid SA
  have hI : (300 : Int) < (n : Int) := by omega
  go_enter Tryz.func12, Tryz.ntmps12
  go_wp2_with (first
    | (have _t := tok1; go_at_call 21; (with_reducible refine (AW.out _ B1.out).mono ?_); rintro e w2 ⟨rfl, hb2⟩; have B2 := Lib.hid (below_step B1.out hb2); have Ra2 := Lib.hid (Ra1.out.below hb2 Ra1.out.lt); have tok2 : Hid True := Lib.hid trivial; clear hb2 tok1 _t)
    | (have _t := tok2; refine wpList_load_g (by first | exact wanted_un rfl | exact wanted_yes rfl rfl rfl rfl | exact (wanted_is rfl rfl rfl rfl).trans (by simp; omega) | exact (wanted_is rfl rfl rfl rfl).trans (by simp)) 49 _ rfl w.heap.size 0 rfl C _ (rangeOf Ra2.out) Tryz.underlying49 rfl HCi.out ?_)
    | (have _t := tok2; go_at_call 28; (with_reducible refine (SA.out _ B2.out).mono ?_); rintro e w3 ⟨rfl, hb3⟩; have B3 := Lib.hid (below_step B2.out hb3); have Ra3 := Lib.hid (Ra2.out.below hb3 Ra2.out.lt); have tok3 : Hid True := Lib.hid trivial; clear hb3 tok2 _t)
    | (have _t := tok3; go_at_call 21; (with_reducible refine (AW.out _ B3.out).mono ?_); rintro e w4 ⟨rfl, hb4⟩; have B4 := Lib.hid (below_step B3.out hb4); have Ra4 := Lib.hid (Ra3.out.below hb4 Ra3.out.lt); have tok4 : Hid True := Lib.hid trivial; clear hb4 tok3 _t))
  go_ret
  exact ⟨rfl, B4.out⟩
set_option maxHeartbeats 64000000 in
theorem mp8_wrong (C : List Value) (hC : RightC C) (st : Int) (ha : C[2]? = some (.int .i64 st)) (A : Option Addr) (n c : Nat) (M : ByteArray) (w : World) (kd kn ke : Int) (hn : n ≤ 300)
    (AW : ∀ W, Below w.heap.size w W → Calls Tryz.prog 21 #[] W fun e w' => e = .returned (.bool true) ∧ Below W.heap.size W w')
    (SA : ∀ W, Below w.heap.size w W → Calls Tryz.prog 28 #[.agg C.toArray, .string M] W fun e w' => e = .returned (.bool true) ∧ Below W.heap.size W w')
    (FC : ∀ W, Below w.heap.size w W → Calls Tryz.prog 45 #[.agg C.toArray, .string M] W fun e w' => e = .returned (.tuple #[.int .i64 kd, .int .i64 kn, .int .i64 ke]) ∧ Below W.heap.size W w')
    (FR : ∀ W, Below w.heap.size w W → Calls Tryz.prog 32 #[.agg C.toArray, .string M] W fun e w' => e = .returned (.tuple #[.int .i64 kd, .int .i64 kn, .int .i64 ke]) ∧ Below W.heap.size W w')
    (PC : ∀ W, Below w.heap.size w W → Calls Tryz.prog 46 #[.agg C.toArray, .string M] W fun e w' => e = .returned (.tuple #[.slice none 0 0, .int .i64 10]) ∧ Below W.heap.size W w')
    (RR : ∀ W, Below w.heap.size w W → Calls Tryz.prog 29 #[.agg C.toArray, .string M] W fun e w' => e = .returned (.bool false) ∧ Below W.heap.size W w')
    (RC : ∀ W, Below w.heap.size w W → Calls Tryz.prog 47 #[.agg C.toArray, .string M] W fun e w' => e = .returned (.bool false) ∧ Below W.heap.size W w') :
    Calls Tryz.prog 12 #[.agg C.toArray, .string M, .slice A n c] w fun e w' => e = .returned (.bool true) ∧ Below w.heap.size w w' := by
  have HMi : Hid ((Tryz.prog.info? 49).map (·.size) = some 7) := Lib.hid (by kernel_rfl)
  obtain ⟨w1, hw1⟩ : ∃ W : World, w.alloc (.cells C.toArray 49) = W := ⟨_, rfl⟩
  have B1 : Hid (Below w.heap.size w w1) := Lib.hid (by rw [← hw1]; exact (Below.refl _ _).alloc (Nat.le_refl _) _)
  have Ra1 : Hid (RowAt w1 w.heap.size 49 C) := Lib.hid (by rw [← hw1]; exact RowAt.new w 49 C)
  have HCi : Hid ((Tryz.prog.info? 49).map (·.size) = some C.length) := Lib.hid (by rw [hC.1]; exact HMi.out)
  have C7 := Lib.hid hC.1
  have HcA := Lib.hid ha
  have tok1 : Hid True := Lib.hid trivial
  clear hC ha
  replace AW := Lib.hid AW
  replace SA := Lib.hid SA
  replace FC := Lib.hid FC
  replace FR := Lib.hid FR
  replace PC := Lib.hid PC
  replace RR := Lib.hid RR
  replace RC := Lib.hid RC
  have hI : ¬ (300 : Int) < (n : Int) := by omega
  go_enter Tryz.func12, Tryz.ntmps12
  go_wp2_with (first
    | (have _t := tok1; go_at_call 21; (with_reducible refine (AW.out _ B1.out).mono ?_); rintro e w2 ⟨rfl, hb2⟩; have B2 := Lib.hid (below_step B1.out hb2); have Ra2 := Lib.hid (Ra1.out.below hb2 Ra1.out.lt); have tok2 : Hid True := Lib.hid trivial; clear hb2 tok1 _t)
    | (have _t := tok2; refine wpList_load_g (by first | exact wanted_un rfl | exact wanted_yes rfl rfl rfl rfl | exact (wanted_is rfl rfl rfl rfl).trans (by simp; omega) | exact (wanted_is rfl rfl rfl rfl).trans (by simp)) 49 _ rfl w.heap.size 0 rfl C _ (rangeOf Ra2.out) Tryz.underlying49 rfl HCi.out ?_)
    | (have _t := tok2; go_at_call 28; (with_reducible refine (SA.out _ B2.out).mono ?_); rintro e w3 ⟨rfl, hb3⟩; have B3 := Lib.hid (below_step B2.out hb3); have Ra3 := Lib.hid (Ra2.out.below hb3 Ra2.out.lt); have tok3 : Hid True := Lib.hid trivial; clear hb3 tok2 _t)
    | (have _t := tok3; refine wpList_load_g (by first | exact wanted_un rfl | exact wanted_yes rfl rfl rfl rfl | exact (wanted_is rfl rfl rfl rfl).trans (by simp; omega) | exact (wanted_is rfl rfl rfl rfl).trans (by simp)) 49 _ rfl w.heap.size 0 rfl C _ (rangeOf Ra3.out) Tryz.underlying49 rfl HCi.out ?_)
    | (have _t := tok3; go_at_call 45; (with_reducible refine (FC.out _ B3.out).mono ?_); rintro e w4 ⟨rfl, hb4⟩; have B4 := Lib.hid (below_step B3.out hb4); have Ra4 := Lib.hid (Ra3.out.below hb4 Ra3.out.lt); have tok4 : Hid True := Lib.hid trivial; clear hb4 tok3 _t)
    | (have _t := tok4; refine wpList_load_g (by first | exact wanted_un rfl | exact wanted_yes rfl rfl rfl rfl | exact (wanted_is rfl rfl rfl rfl).trans (by simp; omega) | exact (wanted_is rfl rfl rfl rfl).trans (by simp)) 49 _ rfl w.heap.size 0 rfl C _ (rangeOf Ra4.out) Tryz.underlying49 rfl HCi.out ?_)
    | (have _t := tok4; go_at_call 32; (with_reducible refine (FR.out _ B4.out).mono ?_); rintro e w5 ⟨rfl, hb5⟩; have B5 := Lib.hid (below_step B4.out hb5); have Ra5 := Lib.hid (Ra4.out.below hb5 Ra4.out.lt); have tok5 : Hid True := Lib.hid trivial; clear hb5 tok4 _t)
    | (have _t := tok5; refine wpList_load_g (by first | exact wanted_un rfl | exact wanted_yes rfl rfl rfl rfl | exact (wanted_is rfl rfl rfl rfl).trans (by simp; omega) | exact (wanted_is rfl rfl rfl rfl).trans (by simp)) 49 _ rfl w.heap.size 0 rfl C _ (rangeOf Ra5.out) Tryz.underlying49 rfl HCi.out ?_)
    | (have _t := tok5; go_at_call 46; (with_reducible refine (PC.out _ B5.out).mono ?_); rintro e w6 ⟨rfl, hb6⟩; have B6 := Lib.hid (below_step B5.out hb6); have Ra6 := Lib.hid (Ra5.out.below hb6 Ra5.out.lt); have tok6 : Hid True := Lib.hid trivial; clear hb6 tok5 _t)
    | (have _t := tok6; refine wpList_load_g (by first | exact wanted_un rfl | exact wanted_yes rfl rfl rfl rfl | exact (wanted_is rfl rfl rfl rfl).trans (by simp; omega) | exact (wanted_is rfl rfl rfl rfl).trans (by simp)) 49 _ rfl w.heap.size 0 rfl C _ (rangeOf Ra6.out) Tryz.underlying49 rfl HCi.out ?_)
    | (have _t := tok6; go_at_call 29; (with_reducible refine (RR.out _ B6.out).mono ?_); rintro e w7 ⟨rfl, hb7⟩; have B7 := Lib.hid (below_step B6.out hb7); have Ra7 := Lib.hid (Ra6.out.below hb7 Ra6.out.lt); have tok7 : Hid True := Lib.hid trivial; clear hb7 tok6 _t)
    | (have _t := tok7; refine wpList_load_g (by first | exact wanted_un rfl | exact wanted_yes rfl rfl rfl rfl | exact (wanted_is rfl rfl rfl rfl).trans (by simp; omega) | exact (wanted_is rfl rfl rfl rfl).trans (by simp)) 49 _ rfl w.heap.size 0 rfl C _ (rangeOf Ra7.out) Tryz.underlying49 rfl HCi.out ?_)
    | (have _t := tok7; go_at_call 47; (with_reducible refine (RC.out _ B7.out).mono ?_); rintro e w8 ⟨rfl, hb8⟩; have B8 := Lib.hid (below_step B7.out hb8); have Ra8 := Lib.hid (Ra7.out.below hb8 Ra7.out.lt); have tok8 : Hid True := Lib.hid trivial; clear hb8 tok7 _t))
  go_ret
  exact ⟨rfl, B8.out⟩
set_option maxHeartbeats 64000000 in
theorem mp8_good (C : List Value) (hC : RightC C) (st : Int) (ha : C[2]? = some (.int .i64 st)) (A : Option Addr) (n c : Nat) (M : ByteArray) (w : World) (kd kn ke : Int) (T PS : List UInt8) (SS : ByteArray) (G : List Value → World → Prop) (hn : n ≤ 300) (hin : SliceIn w w.heap.size 1 A n c (bytesV T)) (hSS : (⟨PS.toArray⟩ : ByteArray) = SS) (hp0 : 0 < PS.length) (hp1 : PS.length ≤ 400000)
    (AW : ∀ W, Below w.heap.size w W → Calls Tryz.prog 21 #[] W fun e w' => e = .returned (.bool true) ∧ Below W.heap.size W w')
    (SA : ∀ W, Below w.heap.size w W → Calls Tryz.prog 28 #[.agg C.toArray, .string M] W fun e w' => e = .returned (.bool true) ∧ Below W.heap.size W w')
    (FC : ∀ W, Below w.heap.size w W → Calls Tryz.prog 45 #[.agg C.toArray, .string M] W fun e w' => e = .returned (.tuple #[.int .i64 kd, .int .i64 kn, .int .i64 ke]) ∧ Below W.heap.size W w')
    (FR : ∀ W, Below w.heap.size w W → Calls Tryz.prog 32 #[.agg C.toArray, .string M] W fun e w' => e = .returned (.tuple #[.int .i64 kd, .int .i64 kn, .int .i64 ke]) ∧ Below W.heap.size W w')
    (PC : ∀ W, Below w.heap.size w W → Calls Tryz.prog 46 #[.agg C.toArray, .string M] W fun e w' => ∃ v, e = .returned (.tuple #[v, .int .i64 0]) ∧ w'.ownsRow W.heap.size 5 1 v PS.length (bytesV PS) ∧ Below W.heap.size W w')
    (RR : ∀ W, Below w.heap.size w W → Calls Tryz.prog 29 #[.agg C.toArray, .string M] W fun e w' => e = .returned (.bool true) ∧ Below W.heap.size W w')
    (RC : ∀ W, Below w.heap.size w W → Calls Tryz.prog 47 #[.agg C.toArray, .string M] W fun e w' => e = .returned (.bool true) ∧ Below W.heap.size W w')
    (PR : ∀ W, Below w.heap.size w W → Calls Tryz.prog 30 #[.agg C.toArray, .string M] W fun e w' => e = .returned (.string SS) ∧ Below W.heap.size W w')
    (U : ∀ W g cap, Below w.heap.size w W → g < W.heap.size → SliceIn W W.heap.size 1 (some ⟨g, 0, none⟩) (PS.length + n) cap (bytesV PS ++ bytesV T) → Calls Tryz.prog 31 #[.slice (some ⟨g, 0, none⟩) (PS.length + n) cap, .bool (st == 0), .string M] W fun e w' => ∃ E, e = .returned (.tuple #[.agg E.toArray, .int .i64 PS.length, .int .i64 0]) ∧ RightC E ∧ (∀ W', Fresh W.heap.size w' W' → G E W') ∧ Below W.heap.size W w')
    (SM : ∀ W E, Below w.heap.size w W → G E W → Calls Tryz.prog 27 #[.agg E.toArray, .agg C.toArray] W fun e w' => e = .returned (.bool true) ∧ Below W.heap.size W w')
    (GB : ∀ D W W', G D W → Below W.heap.size W W' → G D W') :
    Calls Tryz.prog 12 #[.agg C.toArray, .string M, .slice A n c] w fun e w' => e = .returned (.bool true) ∧ Below w.heap.size w w' := by
  have HMi : Hid ((Tryz.prog.info? 49).map (·.size) = some 7) := Lib.hid (by kernel_rfl)
  obtain ⟨w1, hw1⟩ : ∃ W : World, w.alloc (.cells C.toArray 49) = W := ⟨_, rfl⟩
  have B1 : Hid (Below w.heap.size w w1) := Lib.hid (by rw [← hw1]; exact (Below.refl _ _).alloc (Nat.le_refl _) _)
  have Ra1 : Hid (RowAt w1 w.heap.size 49 C) := Lib.hid (by rw [← hw1]; exact RowAt.new w 49 C)
  have HCi : Hid ((Tryz.prog.info? 49).map (·.size) = some C.length) := Lib.hid (by rw [hC.1]; exact HMi.out)
  have C7 := Lib.hid hC.1
  have HcA := Lib.hid ha
  have tok1 : Hid True := Lib.hid trivial
  clear hC ha
  replace AW := Lib.hid AW
  replace SA := Lib.hid SA
  replace FC := Lib.hid FC
  replace FR := Lib.hid FR
  replace PC := Lib.hid PC
  replace RR := Lib.hid RR
  replace RC := Lib.hid RC
  replace PR := Lib.hid PR
  replace U := Lib.hid U
  replace SM := Lib.hid SM
  replace GB := Lib.hid GB
  have GI : Hid (∀ E : List Value, RightC E → (Tryz.prog.info? 49).map (·.size) = some E.length) := Lib.hid (fun E h => by rw [h.1]; exact HMi.out)
  have hI : ¬ (300 : Int) < (n : Int) := by omega
  have Hin := Lib.hid hin
  have HSS := Lib.hid hSS
  obtain ⟨ns, hns⟩ : ∃ x, PS.length = x := ⟨_, rfl⟩
  rw [hns] at PC U
  have Hz : Hid (0 < ns ∧ ns ≤ 400000 ∧ n ≤ 300) := Lib.hid ⟨by omega, by omega, hn⟩
  clear hin hSS hns hp0 hp1 hn
  go_enter Tryz.func12, Tryz.ntmps12
  go_upto_region 11 with (first
    | (have _t := tok1; go_at_call 21; (with_reducible refine (AW.out _ B1.out).mono ?_); rintro e w2 ⟨rfl, hb2⟩; have B2 := Lib.hid (below_step B1.out hb2); have Ra2 := Lib.hid (Ra1.out.below hb2 Ra1.out.lt); have tok2 : Hid True := Lib.hid trivial; clear hb2 tok1 _t)
    | (have _t := tok2; refine wpList_load_g (by first | exact wanted_un rfl | exact wanted_yes rfl rfl rfl rfl | exact (wanted_is rfl rfl rfl rfl).trans (by simp; omega) | exact (wanted_is rfl rfl rfl rfl).trans (by simp)) 49 _ rfl w.heap.size 0 rfl C _ (rangeOf Ra2.out) Tryz.underlying49 rfl HCi.out ?_)
    | (have _t := tok2; go_at_call 28; (with_reducible refine (SA.out _ B2.out).mono ?_); rintro e w3 ⟨rfl, hb3⟩; have B3 := Lib.hid (below_step B2.out hb3); have Ra3 := Lib.hid (Ra2.out.below hb3 Ra2.out.lt); have tok3 : Hid True := Lib.hid trivial; clear hb3 tok2 _t)
    | (have _t := tok3; refine wpList_load_g (by first | exact wanted_un rfl | exact wanted_yes rfl rfl rfl rfl | exact (wanted_is rfl rfl rfl rfl).trans (by simp; omega) | exact (wanted_is rfl rfl rfl rfl).trans (by simp)) 49 _ rfl w.heap.size 0 rfl C _ (rangeOf Ra3.out) Tryz.underlying49 rfl HCi.out ?_)
    | (have _t := tok3; go_at_call 45; (with_reducible refine (FC.out _ B3.out).mono ?_); rintro e w4 ⟨rfl, hb4⟩; have B4 := Lib.hid (below_step B3.out hb4); have Ra4 := Lib.hid (Ra3.out.below hb4 Ra3.out.lt); have tok4 : Hid True := Lib.hid trivial; clear hb4 tok3 _t)
    | (have _t := tok4; refine wpList_load_g (by first | exact wanted_un rfl | exact wanted_yes rfl rfl rfl rfl | exact (wanted_is rfl rfl rfl rfl).trans (by simp; omega) | exact (wanted_is rfl rfl rfl rfl).trans (by simp)) 49 _ rfl w.heap.size 0 rfl C _ (rangeOf Ra4.out) Tryz.underlying49 rfl HCi.out ?_)
    | (have _t := tok4; go_at_call 32; (with_reducible refine (FR.out _ B4.out).mono ?_); rintro e w5 ⟨rfl, hb5⟩; have B5 := Lib.hid (below_step B4.out hb5); have Ra5 := Lib.hid (Ra4.out.below hb5 Ra4.out.lt); have tok5 : Hid True := Lib.hid trivial; clear hb5 tok4 _t)
    | (have _t := tok5; refine wpList_load_g (by first | exact wanted_un rfl | exact wanted_yes rfl rfl rfl rfl | exact (wanted_is rfl rfl rfl rfl).trans (by simp; omega) | exact (wanted_is rfl rfl rfl rfl).trans (by simp)) 49 _ rfl w.heap.size 0 rfl C _ (rangeOf Ra5.out) Tryz.underlying49 rfl HCi.out ?_)
    | (have _t := tok5; go_at_call 46; (with_reducible refine (PC.out _ B5.out).mono ?_); rintro e w6 ⟨v6, rfl, ho, hb6⟩; have B6 := Lib.hid (below_step B5.out hb6); have Ra6 := Lib.hid (Ra5.out.below hb6 Ra5.out.lt); have tok6 : Hid True := Lib.hid trivial; obtain ⟨A6, c6, rfl, hs6⟩ := own_slice ho; have S6 := Lib.hid hs6; clear ho hs6; clear hb6 tok5 _t)
    | (have _t := tok6; refine wpList_load_g (by first | exact wanted_un rfl | exact wanted_yes rfl rfl rfl rfl | exact (wanted_is rfl rfl rfl rfl).trans (by simp; omega) | exact (wanted_is rfl rfl rfl rfl).trans (by simp)) 49 _ rfl w.heap.size 0 rfl C _ (rangeOf Ra6.out) Tryz.underlying49 rfl HCi.out ?_)
    | (have _t := tok6; go_at_call 29; (with_reducible refine (RR.out _ B6.out).mono ?_); rintro e w7 ⟨rfl, hb7⟩; have B7 := Lib.hid (below_step B6.out hb7); have Ra7 := Lib.hid (Ra6.out.below hb7 Ra6.out.lt); have tok7 : Hid True := Lib.hid trivial; have S7 := Lib.hid ((S6.out.below hb7).more hb7.size); clear hb7 tok6 _t)
    | (have _t := tok7; refine wpList_load_g (by first | exact wanted_un rfl | exact wanted_yes rfl rfl rfl rfl | exact (wanted_is rfl rfl rfl rfl).trans (by simp; omega) | exact (wanted_is rfl rfl rfl rfl).trans (by simp)) 49 _ rfl w.heap.size 0 rfl C _ (rangeOf Ra7.out) Tryz.underlying49 rfl HCi.out ?_)
    | (have _t := tok7; go_at_call 47; (with_reducible refine (RC.out _ B7.out).mono ?_); rintro e w8 ⟨rfl, hb8⟩; have B8 := Lib.hid (below_step B7.out hb8); have Ra8 := Lib.hid (Ra7.out.below hb8 Ra7.out.lt); have tok8 : Hid True := Lib.hid trivial; have S8 := Lib.hid ((S7.out.below hb8).more hb8.size); clear hb8 tok7 _t))
  clear AW SA FC FR PC RR RC B1 B2 B3 B4 B5 B6 B7 Ra1 Ra2 Ra3 Ra4 Ra5 Ra6 Ra7 S6 S7
  have I8 := Lib.hid ((Hin.out.below B8.out).more B8.out.size)
  go_cut [16, 17, 18] from 85 to 99 (fun s16 s17 s18 wx => ∃ g E, s16 = .pointer (some ⟨g, 0, none⟩) ∧ s17 = .int .i64 ns ∧ s18 = .int .i64 0 ∧ RowAt wx g 49 E ∧ RightC E ∧ G E wx ∧ Below w8.heap.size w8 wx)
  case first =>
    refine wp_region_tree (fun W => Below w8.heap.size w8 W) (.take 1 (.take 3 (.take 5 (.take 6 (.take 7 (.take 8 (.take 9 (.node (.fork 0 (.node (.fork 2 (.node (.fork 4 (.node (.fork 10 (.take 11 (.take 12 (.take 13 (.take 14 (.node (.fork 15 (.node (.fork 16 (.take 17 (.take 18 (.done))) (.stop))) (.stop))))))) (.fork 15 (.node (.fork 10 (.take 11 (.take 12 (.take 13 (.take 14 (.node (.fork 16 (.take 17 (.take 18 (.done))) (.stop))))))) (.stop))) (.stop)))) (.fork 15 (.node (.fork 4 (.node (.fork 10 (.take 11 (.take 12 (.take 13 (.take 14 (.node (.fork 16 (.take 17 (.take 18 (.done))) (.stop))))))) (.stop))) (.stop))) (.stop)))) (.fork 15 (.node (.fork 2 (.node (.fork 4 (.node (.fork 10 (.take 11 (.take 12 (.take 13 (.take 14 (.node (.fork 16 (.take 17 (.take 18 (.done))) (.stop))))))) (.stop))) (.stop))) (.stop))) (.stop)))) (.fork 15 (.node (.fork 0 (.node (.fork 2 (.node (.fork 4 (.node (.fork 10 (.take 11 (.take 12 (.take 13 (.take 14 (.node (.fork 16 (.take 17 (.take 18 (.done))) (.stop))))))) (.stop))) (.stop))) (.stop))) (.stop))) (.stop))))))))))) (by kernel_rfl) (by kernel_rfl) (of_decide_eq_true (by kernel_rfl)) rfl (by kernel_rfl) (below_drewN (Below.refl _ _) 1) ?_
    intro w1 hH
    iterate 7
      refine tree_take (v := ?_) rfl (by rfl) ?_ ?_
      rotate_left
      · intro w2 hSw
        have ra := Ra8.out.below hSw Ra8.out.lt
        have x2 := ra.cell (j := 2) HcA.out
        clear ra
        clear hSw
        go_simp
        try with_reducible rfl
      try simp only [Act.put, List.setIfInBounds_toArray, List.set_cons_zero, List.set_cons_succ]
    refine tree_node ?_
    refine tree_move rfl (by rfl) (fun K hK => ?_) ?_
    · go_simp
      refine hK.out _ _ (hH.out.alloc hH.out.size _) ?_
      have O0 := Lib.hid (own_lit0 hH hH.out.size 5)
      try (replace FB := Lib.hid (FB.out.alloc (.cells #[] 5)))
      clear hH hK K
      intro hH
      try simp only [Act.put, List.setIfInBounds_toArray, List.set_cons_zero, List.set_cons_succ]
      refine tree_node ?_
      refine tree_move rfl (by rfl) (fun K hK => ?_) ?_
      · refine wp_appS u8_ty _ _ rfl w8.heap.size _ 0 [] rfl (own_addr O0.out (by simp)) w8.heap.size A6 ns c6 (bytesV PS) rfl (S8.out.below hH.out) (bytesV_one _) (by have := Hz.out; omega) (by have := Hz.out; simp only [maxLen]; omega) hH.out.size ?_
        intro v2 w2 ho2 hg2
        rw [Nat.zero_add, List.nil_append] at ho2
        refine hK.out _ _ (hH.out.grown hg2 hH.out.size (fun q hq => ((own_addr O0.out (by simp)).lt q hq).1)) ?_
        have O2 := Lib.hid ho2
        try (replace FB := Lib.hid (row_past FB.out hg2 (own_addr O0.out (by simp)) (by decide)))
        clear hH hK K O0 ho2 hg2
        intro hH
        try simp only [Act.put, List.setIfInBounds_toArray, List.set_cons_zero, List.set_cons_succ]
        refine tree_node ?_
        refine tree_move rfl (by rfl) (fun K hK => ?_) ?_
        · refine wp_appS u8_ty _ _ rfl w8.heap.size _ ns (bytesV PS) rfl O2.out w8.heap.size A n c (bytesV T) rfl (I8.out.below hH.out) (bytesV_one _) (by have := Hz.out; omega) (by have := Hz.out; simp only [maxLen]; omega) hH.out.size ?_
          intro v4 w4 ho4 hg4
          obtain ⟨g4, c4, rfl, hge4, hs4⟩ := own_some ho4 (by have := Hz.out; omega)
          refine hK.out _ _ (hH.out.grown hg4 hH.out.size (fun q hq => (O2.out.lt q hq).1)) ?_
          have SL4 := Lib.hid hs4
          have HG4 := Lib.hid (ho4.lt g4 rfl).2
          try (replace FB := Lib.hid (row_past FB.out hg4 O2.out (by decide)))
          clear hH hK K O2 ho4 hg4 hs4 hge4
          intro hH
          try simp only [Act.put, List.setIfInBounds_toArray, List.set_cons_zero, List.set_cons_succ]
          refine tree_node ?_
          refine tree_move rfl (by rfl) (fun K hK => ?_) ?_
          · go_simp
            try (have GL := Lib.hid FB.out.lt)
            (with_reducible refine (U.out _ _ _ (below_step B8.out hH.out) HG4.out SL4.out).mono ?_)
            rintro e w5 ⟨E, rfl, hE5, hF5, hb5⟩
            refine hK.out _ _ (below_step hH.out hb5) ?_
            try (replace FB := Lib.hid (FB.out.below hb5 FB.out.lt))
            have EE := Lib.hid hE5
            have FR := fresh_start (hF5 _)
            have HF5 := Lib.hid hF5
            clear hH hK K hE5 hF5 hb5 SL4 HG4
            intro hH
            try simp only [Act.put, List.setIfInBounds_toArray, List.set_cons_zero, List.set_cons_succ]
            iterate 4
              refine tree_take (v := ?_) rfl (by rfl) ?_ ?_
              rotate_left
              · intro w2 hSw
                have ra := Ra8.out.below hSw Ra8.out.lt
                have x2 := ra.cell (j := 2) HcA.out
                clear ra
                clear hSw
                go_simp
                try with_reducible rfl
              try simp only [Act.put, List.setIfInBounds_toArray, List.set_cons_zero, List.set_cons_succ]
            refine tree_node ?_
            refine tree_move rfl (by rfl) (fun K hK => ?_) ?_
            · go_simp
              refine hK.out _ _ (hH.out.alloc hH.out.size _) ?_
              have FB := Lib.hid (row_at hH 49 [.string ⟨#[]⟩, .string ⟨#[]⟩, .int .i64 0, .string ⟨#[]⟩, .int .i64 0, .slice none 0 0, .slice none 0 0])
              have HG := Lib.hid hH.out.size
              try (replace FR := Lib.hid (FR.out.alloc (.cells #[.string ⟨#[]⟩, .string ⟨#[]⟩, .int .i64 0, .string ⟨#[]⟩, .int .i64 0, .slice none 0 0, .slice none 0 0] 49)))
              try (replace O0 := Lib.hid (O0.out.alloc (.cells #[.string ⟨#[]⟩, .string ⟨#[]⟩, .int .i64 0, .string ⟨#[]⟩, .int .i64 0, .slice none 0 0, .slice none 0 0] 49)))
              try (replace O2 := Lib.hid (O2.out.alloc (.cells #[.string ⟨#[]⟩, .string ⟨#[]⟩, .int .i64 0, .string ⟨#[]⟩, .int .i64 0, .slice none 0 0, .slice none 0 0] 49)))
              try (replace SL4 := Lib.hid ((SL4.out.alloc (Nat.le_refl _) (.cells #[.string ⟨#[]⟩, .string ⟨#[]⟩, .int .i64 0, .string ⟨#[]⟩, .int .i64 0, .slice none 0 0, .slice none 0 0] 49)).more (B' := (World.alloc w4 (.cells #[.string ⟨#[]⟩, .string ⟨#[]⟩, .int .i64 0, .string ⟨#[]⟩, .int .i64 0, .slice none 0 0, .slice none 0 0] 49)).heap.size) (by simp)))
              try (replace HG4 := Lib.hid (Nat.lt_of_lt_of_le HG4.out (show _ ≤ (World.alloc w4 (.cells #[.string ⟨#[]⟩, .string ⟨#[]⟩, .int .i64 0, .string ⟨#[]⟩, .int .i64 0, .slice none 0 0, .slice none 0 0] 49)).heap.size by simp)))
              clear hH hK K
              intro hH
              try simp only [Act.put, List.setIfInBounds_toArray, List.set_cons_zero, List.set_cons_succ]
              refine tree_node ?_
              refine tree_move rfl (by rfl) (fun K hK => ?_) ?_
              · refine wp_store_row 49 _ _ rfl _ _ E _ rfl rfl (row_size FB.out (by simp)) (by rw [EE.out.1]; rfl) (GI.out _ EE.out) EE.out.2 ?_
                intro w7 hr7 ho7
                refine hK.out _ _ (ho7.below hH.out (by have := HG.out; first | exact this | (simp at this; omega))) ?_
                have FR7 := Lib.hid hr7
                have HH := Lib.hid (HF5.out _ (FR.out.only ho7 (by first | exact Or.inl GL.out | exact Or.inr (Nat.le_refl _) | exact Or.inl (by have := GL.out; simp at this; omega))))
                clear hH hK K hr7 ho7 FB HG
                intro hH
                try simp only [Act.put]
                iterate 2
                  refine tree_take (v := ?_) rfl (by rfl) ?_ ?_
                  rotate_left
                  · intro w2 hSw
                    have ra := Ra8.out.below hSw Ra8.out.lt
                    have x2 := ra.cell (j := 2) HcA.out
                    clear ra
                    clear hSw
                    go_simp
                    try with_reducible rfl
                  try simp only [Act.put, List.setIfInBounds_toArray, List.set_cons_zero, List.set_cons_succ]
                refine tree_done ?_
                go_wp2_with fail
                go_meet
                exact ⟨_, E, rfl, rfl, rfl, FR7.out, EE.out, HH.out, hH.out⟩
              exact tree_stop
            exact tree_stop
          refine tree_move rfl (by rfl) (fun K hK => ?_) ?_
          · go_simp
            refine hK.out _ _ (hH.out.alloc hH.out.size _) ?_
            have FB := Lib.hid (row_at hH 49 [.string ⟨#[]⟩, .string ⟨#[]⟩, .int .i64 0, .string ⟨#[]⟩, .int .i64 0, .slice none 0 0, .slice none 0 0])
            have HG := Lib.hid hH.out.size
            try (replace FR := Lib.hid (FR.out.alloc (.cells #[.string ⟨#[]⟩, .string ⟨#[]⟩, .int .i64 0, .string ⟨#[]⟩, .int .i64 0, .slice none 0 0, .slice none 0 0] 49)))
            try (replace O0 := Lib.hid (O0.out.alloc (.cells #[.string ⟨#[]⟩, .string ⟨#[]⟩, .int .i64 0, .string ⟨#[]⟩, .int .i64 0, .slice none 0 0, .slice none 0 0] 49)))
            try (replace O2 := Lib.hid (O2.out.alloc (.cells #[.string ⟨#[]⟩, .string ⟨#[]⟩, .int .i64 0, .string ⟨#[]⟩, .int .i64 0, .slice none 0 0, .slice none 0 0] 49)))
            try (replace SL4 := Lib.hid ((SL4.out.alloc (Nat.le_refl _) (.cells #[.string ⟨#[]⟩, .string ⟨#[]⟩, .int .i64 0, .string ⟨#[]⟩, .int .i64 0, .slice none 0 0, .slice none 0 0] 49)).more (B' := (World.alloc w4 (.cells #[.string ⟨#[]⟩, .string ⟨#[]⟩, .int .i64 0, .string ⟨#[]⟩, .int .i64 0, .slice none 0 0, .slice none 0 0] 49)).heap.size) (by simp)))
            try (replace HG4 := Lib.hid (Nat.lt_of_lt_of_le HG4.out (show _ ≤ (World.alloc w4 (.cells #[.string ⟨#[]⟩, .string ⟨#[]⟩, .int .i64 0, .string ⟨#[]⟩, .int .i64 0, .slice none 0 0, .slice none 0 0] 49)).heap.size by simp)))
            clear hH hK K
            intro hH
            try simp only [Act.put, List.setIfInBounds_toArray, List.set_cons_zero, List.set_cons_succ]
            refine tree_node ?_
            refine tree_move rfl (by rfl) (fun K hK => ?_) ?_
            · go_simp
              try (have GL := Lib.hid FB.out.lt)
              (with_reducible refine (U.out _ _ _ (below_step B8.out hH.out) HG4.out SL4.out).mono ?_)
              rintro e w5 ⟨E, rfl, hE5, hF5, hb5⟩
              refine hK.out _ _ (below_step hH.out hb5) ?_
              try (replace FB := Lib.hid (FB.out.below hb5 FB.out.lt))
              have EE := Lib.hid hE5
              have FR := fresh_start (hF5 _)
              have HF5 := Lib.hid hF5
              clear hH hK K hE5 hF5 hb5 SL4 HG4
              intro hH
              try simp only [Act.put, List.setIfInBounds_toArray, List.set_cons_zero, List.set_cons_succ]
              iterate 4
                refine tree_take (v := ?_) rfl (by rfl) ?_ ?_
                rotate_left
                · intro w2 hSw
                  have ra := Ra8.out.below hSw Ra8.out.lt
                  have x2 := ra.cell (j := 2) HcA.out
                  clear ra
                  clear hSw
                  go_simp
                  try with_reducible rfl
                try simp only [Act.put, List.setIfInBounds_toArray, List.set_cons_zero, List.set_cons_succ]
              refine tree_node ?_
              refine tree_move rfl (by rfl) (fun K hK => ?_) ?_
              · refine wp_store_row 49 _ _ rfl _ _ E _ rfl rfl (row_size FB.out (by simp)) (by rw [EE.out.1]; rfl) (GI.out _ EE.out) EE.out.2 ?_
                intro w7 hr7 ho7
                refine hK.out _ _ (ho7.below hH.out (by have := HG.out; first | exact this | (simp at this; omega))) ?_
                have FR7 := Lib.hid hr7
                have HH := Lib.hid (HF5.out _ (FR.out.only ho7 (by first | exact Or.inl GL.out | exact Or.inr (Nat.le_refl _) | exact Or.inl (by have := GL.out; simp at this; omega))))
                clear hH hK K hr7 ho7 FB HG
                intro hH
                try simp only [Act.put]
                iterate 2
                  refine tree_take (v := ?_) rfl (by rfl) ?_ ?_
                  rotate_left
                  · intro w2 hSw
                    have ra := Ra8.out.below hSw Ra8.out.lt
                    have x2 := ra.cell (j := 2) HcA.out
                    clear ra
                    clear hSw
                    go_simp
                    try with_reducible rfl
                  try simp only [Act.put, List.setIfInBounds_toArray, List.set_cons_zero, List.set_cons_succ]
                refine tree_done ?_
                go_wp2_with fail
                go_meet
                exact ⟨_, E, rfl, rfl, rfl, FR7.out, EE.out, HH.out, hH.out⟩
              exact tree_stop
            exact tree_stop
          exact tree_stop
        refine tree_move rfl (by rfl) (fun K hK => ?_) ?_
        · go_simp
          refine hK.out _ _ (hH.out.alloc hH.out.size _) ?_
          have FB := Lib.hid (row_at hH 49 [.string ⟨#[]⟩, .string ⟨#[]⟩, .int .i64 0, .string ⟨#[]⟩, .int .i64 0, .slice none 0 0, .slice none 0 0])
          have HG := Lib.hid hH.out.size
          try (replace FR := Lib.hid (FR.out.alloc (.cells #[.string ⟨#[]⟩, .string ⟨#[]⟩, .int .i64 0, .string ⟨#[]⟩, .int .i64 0, .slice none 0 0, .slice none 0 0] 49)))
          try (replace O0 := Lib.hid (O0.out.alloc (.cells #[.string ⟨#[]⟩, .string ⟨#[]⟩, .int .i64 0, .string ⟨#[]⟩, .int .i64 0, .slice none 0 0, .slice none 0 0] 49)))
          try (replace O2 := Lib.hid (O2.out.alloc (.cells #[.string ⟨#[]⟩, .string ⟨#[]⟩, .int .i64 0, .string ⟨#[]⟩, .int .i64 0, .slice none 0 0, .slice none 0 0] 49)))
          try (replace SL4 := Lib.hid ((SL4.out.alloc (Nat.le_refl _) (.cells #[.string ⟨#[]⟩, .string ⟨#[]⟩, .int .i64 0, .string ⟨#[]⟩, .int .i64 0, .slice none 0 0, .slice none 0 0] 49)).more (B' := (World.alloc w4 (.cells #[.string ⟨#[]⟩, .string ⟨#[]⟩, .int .i64 0, .string ⟨#[]⟩, .int .i64 0, .slice none 0 0, .slice none 0 0] 49)).heap.size) (by simp)))
          try (replace HG4 := Lib.hid (Nat.lt_of_lt_of_le HG4.out (show _ ≤ (World.alloc w4 (.cells #[.string ⟨#[]⟩, .string ⟨#[]⟩, .int .i64 0, .string ⟨#[]⟩, .int .i64 0, .slice none 0 0, .slice none 0 0] 49)).heap.size by simp)))
          clear hH hK K
          intro hH
          try simp only [Act.put, List.setIfInBounds_toArray, List.set_cons_zero, List.set_cons_succ]
          refine tree_node ?_
          refine tree_move rfl (by rfl) (fun K hK => ?_) ?_
          · refine wp_appS u8_ty _ _ rfl w8.heap.size _ ns (bytesV PS) rfl O2.out w8.heap.size A n c (bytesV T) rfl (I8.out.below hH.out) (bytesV_one _) (by have := Hz.out; omega) (by have := Hz.out; simp only [maxLen]; omega) hH.out.size ?_
            intro v4 w4 ho4 hg4
            obtain ⟨g4, c4, rfl, hge4, hs4⟩ := own_some ho4 (by have := Hz.out; omega)
            refine hK.out _ _ (hH.out.grown hg4 hH.out.size (fun q hq => (O2.out.lt q hq).1)) ?_
            have SL4 := Lib.hid hs4
            have HG4 := Lib.hid (ho4.lt g4 rfl).2
            try (replace FB := Lib.hid (row_past FB.out hg4 O2.out (by decide)))
            clear hH hK K O2 ho4 hg4 hs4 hge4
            intro hH
            try simp only [Act.put, List.setIfInBounds_toArray, List.set_cons_zero, List.set_cons_succ]
            refine tree_node ?_
            refine tree_move rfl (by rfl) (fun K hK => ?_) ?_
            · go_simp
              try (have GL := Lib.hid FB.out.lt)
              (with_reducible refine (U.out _ _ _ (below_step B8.out hH.out) HG4.out SL4.out).mono ?_)
              rintro e w5 ⟨E, rfl, hE5, hF5, hb5⟩
              refine hK.out _ _ (below_step hH.out hb5) ?_
              try (replace FB := Lib.hid (FB.out.below hb5 FB.out.lt))
              have EE := Lib.hid hE5
              have FR := fresh_start (hF5 _)
              have HF5 := Lib.hid hF5
              clear hH hK K hE5 hF5 hb5 SL4 HG4
              intro hH
              try simp only [Act.put, List.setIfInBounds_toArray, List.set_cons_zero, List.set_cons_succ]
              iterate 4
                refine tree_take (v := ?_) rfl (by rfl) ?_ ?_
                rotate_left
                · intro w2 hSw
                  have ra := Ra8.out.below hSw Ra8.out.lt
                  have x2 := ra.cell (j := 2) HcA.out
                  clear ra
                  clear hSw
                  go_simp
                  try with_reducible rfl
                try simp only [Act.put, List.setIfInBounds_toArray, List.set_cons_zero, List.set_cons_succ]
              refine tree_node ?_
              refine tree_move rfl (by rfl) (fun K hK => ?_) ?_
              · refine wp_store_row 49 _ _ rfl _ _ E _ rfl rfl (row_size FB.out (by simp)) (by rw [EE.out.1]; rfl) (GI.out _ EE.out) EE.out.2 ?_
                intro w7 hr7 ho7
                refine hK.out _ _ (ho7.below hH.out (by have := HG.out; first | exact this | (simp at this; omega))) ?_
                have FR7 := Lib.hid hr7
                have HH := Lib.hid (HF5.out _ (FR.out.only ho7 (by first | exact Or.inl GL.out | exact Or.inr (Nat.le_refl _) | exact Or.inl (by have := GL.out; simp at this; omega))))
                clear hH hK K hr7 ho7 FB HG
                intro hH
                try simp only [Act.put]
                iterate 2
                  refine tree_take (v := ?_) rfl (by rfl) ?_ ?_
                  rotate_left
                  · intro w2 hSw
                    have ra := Ra8.out.below hSw Ra8.out.lt
                    have x2 := ra.cell (j := 2) HcA.out
                    clear ra
                    clear hSw
                    go_simp
                    try with_reducible rfl
                  try simp only [Act.put, List.setIfInBounds_toArray, List.set_cons_zero, List.set_cons_succ]
                refine tree_done ?_
                go_wp2_with fail
                go_meet
                exact ⟨_, E, rfl, rfl, rfl, FR7.out, EE.out, HH.out, hH.out⟩
              exact tree_stop
            exact tree_stop
          exact tree_stop
        exact tree_stop
      refine tree_move rfl (by rfl) (fun K hK => ?_) ?_
      · go_simp
        refine hK.out _ _ (hH.out.alloc hH.out.size _) ?_
        have FB := Lib.hid (row_at hH 49 [.string ⟨#[]⟩, .string ⟨#[]⟩, .int .i64 0, .string ⟨#[]⟩, .int .i64 0, .slice none 0 0, .slice none 0 0])
        have HG := Lib.hid hH.out.size
        try (replace FR := Lib.hid (FR.out.alloc (.cells #[.string ⟨#[]⟩, .string ⟨#[]⟩, .int .i64 0, .string ⟨#[]⟩, .int .i64 0, .slice none 0 0, .slice none 0 0] 49)))
        try (replace O0 := Lib.hid (O0.out.alloc (.cells #[.string ⟨#[]⟩, .string ⟨#[]⟩, .int .i64 0, .string ⟨#[]⟩, .int .i64 0, .slice none 0 0, .slice none 0 0] 49)))
        try (replace O2 := Lib.hid (O2.out.alloc (.cells #[.string ⟨#[]⟩, .string ⟨#[]⟩, .int .i64 0, .string ⟨#[]⟩, .int .i64 0, .slice none 0 0, .slice none 0 0] 49)))
        try (replace SL4 := Lib.hid ((SL4.out.alloc (Nat.le_refl _) (.cells #[.string ⟨#[]⟩, .string ⟨#[]⟩, .int .i64 0, .string ⟨#[]⟩, .int .i64 0, .slice none 0 0, .slice none 0 0] 49)).more (B' := (World.alloc w4 (.cells #[.string ⟨#[]⟩, .string ⟨#[]⟩, .int .i64 0, .string ⟨#[]⟩, .int .i64 0, .slice none 0 0, .slice none 0 0] 49)).heap.size) (by simp)))
        try (replace HG4 := Lib.hid (Nat.lt_of_lt_of_le HG4.out (show _ ≤ (World.alloc w4 (.cells #[.string ⟨#[]⟩, .string ⟨#[]⟩, .int .i64 0, .string ⟨#[]⟩, .int .i64 0, .slice none 0 0, .slice none 0 0] 49)).heap.size by simp)))
        clear hH hK K
        intro hH
        try simp only [Act.put, List.setIfInBounds_toArray, List.set_cons_zero, List.set_cons_succ]
        refine tree_node ?_
        refine tree_move rfl (by rfl) (fun K hK => ?_) ?_
        · refine wp_appS u8_ty _ _ rfl w8.heap.size _ 0 [] rfl (own_addr O0.out (by simp)) w8.heap.size A6 ns c6 (bytesV PS) rfl (S8.out.below hH.out) (bytesV_one _) (by have := Hz.out; omega) (by have := Hz.out; simp only [maxLen]; omega) hH.out.size ?_
          intro v2 w2 ho2 hg2
          rw [Nat.zero_add, List.nil_append] at ho2
          refine hK.out _ _ (hH.out.grown hg2 hH.out.size (fun q hq => ((own_addr O0.out (by simp)).lt q hq).1)) ?_
          have O2 := Lib.hid ho2
          try (replace FB := Lib.hid (row_past FB.out hg2 (own_addr O0.out (by simp)) (by decide)))
          clear hH hK K O0 ho2 hg2
          intro hH
          try simp only [Act.put, List.setIfInBounds_toArray, List.set_cons_zero, List.set_cons_succ]
          refine tree_node ?_
          refine tree_move rfl (by rfl) (fun K hK => ?_) ?_
          · refine wp_appS u8_ty _ _ rfl w8.heap.size _ ns (bytesV PS) rfl O2.out w8.heap.size A n c (bytesV T) rfl (I8.out.below hH.out) (bytesV_one _) (by have := Hz.out; omega) (by have := Hz.out; simp only [maxLen]; omega) hH.out.size ?_
            intro v4 w4 ho4 hg4
            obtain ⟨g4, c4, rfl, hge4, hs4⟩ := own_some ho4 (by have := Hz.out; omega)
            refine hK.out _ _ (hH.out.grown hg4 hH.out.size (fun q hq => (O2.out.lt q hq).1)) ?_
            have SL4 := Lib.hid hs4
            have HG4 := Lib.hid (ho4.lt g4 rfl).2
            try (replace FB := Lib.hid (row_past FB.out hg4 O2.out (by decide)))
            clear hH hK K O2 ho4 hg4 hs4 hge4
            intro hH
            try simp only [Act.put, List.setIfInBounds_toArray, List.set_cons_zero, List.set_cons_succ]
            refine tree_node ?_
            refine tree_move rfl (by rfl) (fun K hK => ?_) ?_
            · go_simp
              try (have GL := Lib.hid FB.out.lt)
              (with_reducible refine (U.out _ _ _ (below_step B8.out hH.out) HG4.out SL4.out).mono ?_)
              rintro e w5 ⟨E, rfl, hE5, hF5, hb5⟩
              refine hK.out _ _ (below_step hH.out hb5) ?_
              try (replace FB := Lib.hid (FB.out.below hb5 FB.out.lt))
              have EE := Lib.hid hE5
              have FR := fresh_start (hF5 _)
              have HF5 := Lib.hid hF5
              clear hH hK K hE5 hF5 hb5 SL4 HG4
              intro hH
              try simp only [Act.put, List.setIfInBounds_toArray, List.set_cons_zero, List.set_cons_succ]
              iterate 4
                refine tree_take (v := ?_) rfl (by rfl) ?_ ?_
                rotate_left
                · intro w2 hSw
                  have ra := Ra8.out.below hSw Ra8.out.lt
                  have x2 := ra.cell (j := 2) HcA.out
                  clear ra
                  clear hSw
                  go_simp
                  try with_reducible rfl
                try simp only [Act.put, List.setIfInBounds_toArray, List.set_cons_zero, List.set_cons_succ]
              refine tree_node ?_
              refine tree_move rfl (by rfl) (fun K hK => ?_) ?_
              · refine wp_store_row 49 _ _ rfl _ _ E _ rfl rfl (row_size FB.out (by simp)) (by rw [EE.out.1]; rfl) (GI.out _ EE.out) EE.out.2 ?_
                intro w7 hr7 ho7
                refine hK.out _ _ (ho7.below hH.out (by have := HG.out; first | exact this | (simp at this; omega))) ?_
                have FR7 := Lib.hid hr7
                have HH := Lib.hid (HF5.out _ (FR.out.only ho7 (by first | exact Or.inl GL.out | exact Or.inr (Nat.le_refl _) | exact Or.inl (by have := GL.out; simp at this; omega))))
                clear hH hK K hr7 ho7 FB HG
                intro hH
                try simp only [Act.put]
                iterate 2
                  refine tree_take (v := ?_) rfl (by rfl) ?_ ?_
                  rotate_left
                  · intro w2 hSw
                    have ra := Ra8.out.below hSw Ra8.out.lt
                    have x2 := ra.cell (j := 2) HcA.out
                    clear ra
                    clear hSw
                    go_simp
                    try with_reducible rfl
                  try simp only [Act.put, List.setIfInBounds_toArray, List.set_cons_zero, List.set_cons_succ]
                refine tree_done ?_
                go_wp2_with fail
                go_meet
                exact ⟨_, E, rfl, rfl, rfl, FR7.out, EE.out, HH.out, hH.out⟩
              exact tree_stop
            exact tree_stop
          exact tree_stop
        exact tree_stop
      exact tree_stop
    refine tree_move rfl (by rfl) (fun K hK => ?_) ?_
    · go_simp
      refine hK.out _ _ (hH.out.alloc hH.out.size _) ?_
      have FB := Lib.hid (row_at hH 49 [.string ⟨#[]⟩, .string ⟨#[]⟩, .int .i64 0, .string ⟨#[]⟩, .int .i64 0, .slice none 0 0, .slice none 0 0])
      have HG := Lib.hid hH.out.size
      try (replace FR := Lib.hid (FR.out.alloc (.cells #[.string ⟨#[]⟩, .string ⟨#[]⟩, .int .i64 0, .string ⟨#[]⟩, .int .i64 0, .slice none 0 0, .slice none 0 0] 49)))
      try (replace O0 := Lib.hid (O0.out.alloc (.cells #[.string ⟨#[]⟩, .string ⟨#[]⟩, .int .i64 0, .string ⟨#[]⟩, .int .i64 0, .slice none 0 0, .slice none 0 0] 49)))
      try (replace O2 := Lib.hid (O2.out.alloc (.cells #[.string ⟨#[]⟩, .string ⟨#[]⟩, .int .i64 0, .string ⟨#[]⟩, .int .i64 0, .slice none 0 0, .slice none 0 0] 49)))
      try (replace SL4 := Lib.hid ((SL4.out.alloc (Nat.le_refl _) (.cells #[.string ⟨#[]⟩, .string ⟨#[]⟩, .int .i64 0, .string ⟨#[]⟩, .int .i64 0, .slice none 0 0, .slice none 0 0] 49)).more (B' := (World.alloc w4 (.cells #[.string ⟨#[]⟩, .string ⟨#[]⟩, .int .i64 0, .string ⟨#[]⟩, .int .i64 0, .slice none 0 0, .slice none 0 0] 49)).heap.size) (by simp)))
      try (replace HG4 := Lib.hid (Nat.lt_of_lt_of_le HG4.out (show _ ≤ (World.alloc w4 (.cells #[.string ⟨#[]⟩, .string ⟨#[]⟩, .int .i64 0, .string ⟨#[]⟩, .int .i64 0, .slice none 0 0, .slice none 0 0] 49)).heap.size by simp)))
      clear hH hK K
      intro hH
      try simp only [Act.put, List.setIfInBounds_toArray, List.set_cons_zero, List.set_cons_succ]
      refine tree_node ?_
      refine tree_move rfl (by rfl) (fun K hK => ?_) ?_
      · go_simp
        refine hK.out _ _ (hH.out.alloc hH.out.size _) ?_
        have O0 := Lib.hid (own_lit0 hH hH.out.size 5)
        try (replace FB := Lib.hid (FB.out.alloc (.cells #[] 5)))
        clear hH hK K
        intro hH
        try simp only [Act.put, List.setIfInBounds_toArray, List.set_cons_zero, List.set_cons_succ]
        refine tree_node ?_
        refine tree_move rfl (by rfl) (fun K hK => ?_) ?_
        · refine wp_appS u8_ty _ _ rfl w8.heap.size _ 0 [] rfl (own_addr O0.out (by simp)) w8.heap.size A6 ns c6 (bytesV PS) rfl (S8.out.below hH.out) (bytesV_one _) (by have := Hz.out; omega) (by have := Hz.out; simp only [maxLen]; omega) hH.out.size ?_
          intro v2 w2 ho2 hg2
          rw [Nat.zero_add, List.nil_append] at ho2
          refine hK.out _ _ (hH.out.grown hg2 hH.out.size (fun q hq => ((own_addr O0.out (by simp)).lt q hq).1)) ?_
          have O2 := Lib.hid ho2
          try (replace FB := Lib.hid (row_past FB.out hg2 (own_addr O0.out (by simp)) (by decide)))
          clear hH hK K O0 ho2 hg2
          intro hH
          try simp only [Act.put, List.setIfInBounds_toArray, List.set_cons_zero, List.set_cons_succ]
          refine tree_node ?_
          refine tree_move rfl (by rfl) (fun K hK => ?_) ?_
          · refine wp_appS u8_ty _ _ rfl w8.heap.size _ ns (bytesV PS) rfl O2.out w8.heap.size A n c (bytesV T) rfl (I8.out.below hH.out) (bytesV_one _) (by have := Hz.out; omega) (by have := Hz.out; simp only [maxLen]; omega) hH.out.size ?_
            intro v4 w4 ho4 hg4
            obtain ⟨g4, c4, rfl, hge4, hs4⟩ := own_some ho4 (by have := Hz.out; omega)
            refine hK.out _ _ (hH.out.grown hg4 hH.out.size (fun q hq => (O2.out.lt q hq).1)) ?_
            have SL4 := Lib.hid hs4
            have HG4 := Lib.hid (ho4.lt g4 rfl).2
            try (replace FB := Lib.hid (row_past FB.out hg4 O2.out (by decide)))
            clear hH hK K O2 ho4 hg4 hs4 hge4
            intro hH
            try simp only [Act.put, List.setIfInBounds_toArray, List.set_cons_zero, List.set_cons_succ]
            refine tree_node ?_
            refine tree_move rfl (by rfl) (fun K hK => ?_) ?_
            · go_simp
              try (have GL := Lib.hid FB.out.lt)
              (with_reducible refine (U.out _ _ _ (below_step B8.out hH.out) HG4.out SL4.out).mono ?_)
              rintro e w5 ⟨E, rfl, hE5, hF5, hb5⟩
              refine hK.out _ _ (below_step hH.out hb5) ?_
              try (replace FB := Lib.hid (FB.out.below hb5 FB.out.lt))
              have EE := Lib.hid hE5
              have FR := fresh_start (hF5 _)
              have HF5 := Lib.hid hF5
              clear hH hK K hE5 hF5 hb5 SL4 HG4
              intro hH
              try simp only [Act.put, List.setIfInBounds_toArray, List.set_cons_zero, List.set_cons_succ]
              iterate 4
                refine tree_take (v := ?_) rfl (by rfl) ?_ ?_
                rotate_left
                · intro w2 hSw
                  have ra := Ra8.out.below hSw Ra8.out.lt
                  have x2 := ra.cell (j := 2) HcA.out
                  clear ra
                  clear hSw
                  go_simp
                  try with_reducible rfl
                try simp only [Act.put, List.setIfInBounds_toArray, List.set_cons_zero, List.set_cons_succ]
              refine tree_node ?_
              refine tree_move rfl (by rfl) (fun K hK => ?_) ?_
              · refine wp_store_row 49 _ _ rfl _ _ E _ rfl rfl (row_size FB.out (by simp)) (by rw [EE.out.1]; rfl) (GI.out _ EE.out) EE.out.2 ?_
                intro w7 hr7 ho7
                refine hK.out _ _ (ho7.below hH.out (by have := HG.out; first | exact this | (simp at this; omega))) ?_
                have FR7 := Lib.hid hr7
                have HH := Lib.hid (HF5.out _ (FR.out.only ho7 (by first | exact Or.inl GL.out | exact Or.inr (Nat.le_refl _) | exact Or.inl (by have := GL.out; simp at this; omega))))
                clear hH hK K hr7 ho7 FB HG
                intro hH
                try simp only [Act.put]
                iterate 2
                  refine tree_take (v := ?_) rfl (by rfl) ?_ ?_
                  rotate_left
                  · intro w2 hSw
                    have ra := Ra8.out.below hSw Ra8.out.lt
                    have x2 := ra.cell (j := 2) HcA.out
                    clear ra
                    clear hSw
                    go_simp
                    try with_reducible rfl
                  try simp only [Act.put, List.setIfInBounds_toArray, List.set_cons_zero, List.set_cons_succ]
                refine tree_done ?_
                go_wp2_with fail
                go_meet
                exact ⟨_, E, rfl, rfl, rfl, FR7.out, EE.out, HH.out, hH.out⟩
              exact tree_stop
            exact tree_stop
          exact tree_stop
        exact tree_stop
      exact tree_stop
    exact tree_stop
  case rest =>
    obtain ⟨gy, E, rfl, rfl, rfl, hry, hEE, hGE, hby⟩ := hcut
    obtain ⟨w9, hw9⟩ : ∃ W : World, W = wc := ⟨_, rfl⟩
    subst hw9
    have B9 := Lib.hid (below_step B8.out hby)
    have Ra9 := Lib.hid (Ra8.out.below hby Ra8.out.lt)
    have S9 := Lib.hid ((S8.out.below hby).more hby.size)
    have RY := Lib.hid hry
    have EE := Lib.hid hEE
    have GE := Lib.hid hGE
    clear hry hEE hGE hby U Ra8 S8 I8
    go_upto_region 12 with fail
    obtain ⟨p0, p1, p2, p3, p4, p5, p6, hCe⟩ := list7p C7.out
    obtain ⟨e0, e1, e2, e3, e4, e5, e6, hEe⟩ := list7p EE.out.1
    have HCe := Lib.hid hCe
    have HEe := Lib.hid hEe
    clear hCe hEe
    refine wp_region_plan (fun W => Below w9.heap.size w9 W) [(0, true), (1, true), (2, true), (3, true), (4, true), (5, true), (6, true), (7, false), (8, true), (9, true), (10, true), (11, true), (12, true), (13, true), (14, true), (15, true), (16, true), (17, true), (18, true), (19, true), (20, true), (21, true), (22, true), (23, false), (24, true), (25, true)] (by kernel_rfl) (by kernel_rfl) rfl (by kernel_rfl) (below_drewN (Below.refl _ _) 1) ?_
    have hss : (⟨PS.toArray⟩ : ByteArray) = SS := HSS.out
    intro w1 hH
    iterate 7
      refine plan_take (v := ?_) rfl (by rfl) ?_ ?_
      rotate_left
      · intro w2 hSw
        have q1 := run_string_of (P := Tryz.prog) (S9.out.below hSw) 38 9 5 Tryz.underlying38 Tryz.underlying5 Tryz.underlying9
        rw [hss] at q1
        have ra := Ra9.out.below hSw Ra9.out.lt
        have ry := RY.out.below hSw RY.out.lt
        have x0 := ra.cell (j := 0) (u := p0) (by rw [HCe.out]; rfl)
        have x1 := ra.cell (j := 1) (u := p1) (by rw [HCe.out]; rfl)
        have x2 := ra.cell (j := 2) (u := p2) (by rw [HCe.out]; rfl)
        have x3 := ra.cell (j := 3) (u := p3) (by rw [HCe.out]; rfl)
        have x4 := ra.cell (j := 4) (u := p4) (by rw [HCe.out]; rfl)
        have x5 := ra.cell (j := 5) (u := p5) (by rw [HCe.out]; rfl)
        have x6 := ra.cell (j := 6) (u := p6) (by rw [HCe.out]; rfl)
        have y0 := ry.cell (j := 0) (u := e0) (by rw [HEe.out]; rfl)
        have y1 := ry.cell (j := 1) (u := e1) (by rw [HEe.out]; rfl)
        have y2 := ry.cell (j := 2) (u := e2) (by rw [HEe.out]; rfl)
        have y3 := ry.cell (j := 3) (u := e3) (by rw [HEe.out]; rfl)
        have y4 := ry.cell (j := 4) (u := e4) (by rw [HEe.out]; rfl)
        have y5 := ry.cell (j := 5) (u := e5) (by rw [HEe.out]; rfl)
        have y6 := ry.cell (j := 6) (u := e6) (by rw [HEe.out]; rfl)
        clear ra ry
        clear hSw
        go_simp
        try with_reducible rfl
      try simp only [Act.put, List.setIfInBounds_toArray, List.set_cons_zero, List.set_cons_succ]
    refine plan_move rfl (by rfl) (fun K hK => ?_)
    go_simp
    rw [show (Value.agg #[p0, p1, p2, p3, p4, p5, p6]) = .agg C.toArray from by rw [HCe.out]]
    (with_reducible refine (PR.out _ (below_step B9.out hH.out)).mono ?_)
    rintro e w5 ⟨rfl, hb5⟩
    refine hK.out _ _ (below_step hH.out hb5) ?_
    clear hH hK hb5 K
    intro hH
    try simp only [Act.put, List.setIfInBounds_toArray, List.set_cons_zero, List.set_cons_succ]
    iterate 15
      refine plan_take (v := ?_) rfl (by rfl) ?_ ?_
      rotate_left
      · intro w2 hSw
        have q1 := run_string_of (P := Tryz.prog) (S9.out.below hSw) 38 9 5 Tryz.underlying38 Tryz.underlying5 Tryz.underlying9
        rw [hss] at q1
        have ra := Ra9.out.below hSw Ra9.out.lt
        have ry := RY.out.below hSw RY.out.lt
        have x0 := ra.cell (j := 0) (u := p0) (by rw [HCe.out]; rfl)
        have x1 := ra.cell (j := 1) (u := p1) (by rw [HCe.out]; rfl)
        have x2 := ra.cell (j := 2) (u := p2) (by rw [HCe.out]; rfl)
        have x3 := ra.cell (j := 3) (u := p3) (by rw [HCe.out]; rfl)
        have x4 := ra.cell (j := 4) (u := p4) (by rw [HCe.out]; rfl)
        have x5 := ra.cell (j := 5) (u := p5) (by rw [HCe.out]; rfl)
        have x6 := ra.cell (j := 6) (u := p6) (by rw [HCe.out]; rfl)
        have y0 := ry.cell (j := 0) (u := e0) (by rw [HEe.out]; rfl)
        have y1 := ry.cell (j := 1) (u := e1) (by rw [HEe.out]; rfl)
        have y2 := ry.cell (j := 2) (u := e2) (by rw [HEe.out]; rfl)
        have y3 := ry.cell (j := 3) (u := e3) (by rw [HEe.out]; rfl)
        have y4 := ry.cell (j := 4) (u := e4) (by rw [HEe.out]; rfl)
        have y5 := ry.cell (j := 5) (u := e5) (by rw [HEe.out]; rfl)
        have y6 := ry.cell (j := 6) (u := e6) (by rw [HEe.out]; rfl)
        clear ra ry
        clear hSw
        go_simp
        try with_reducible rfl
      try simp only [Act.put, List.setIfInBounds_toArray, List.set_cons_zero, List.set_cons_succ]
    refine plan_move rfl (by rfl) (fun K hK => ?_)
    go_simp
    rw [show (Value.agg #[p0, p1, p2, p3, p4, p5, p6]) = .agg C.toArray from by rw [HCe.out], show (Value.agg #[e0, e1, e2, e3, e4, e5, e6]) = .agg E.toArray from by rw [HEe.out]]
    (with_reducible refine (SM.out _ E (below_step B9.out hH.out) (GB.out _ _ _ GE.out hH.out)).mono ?_)
    rintro e w5 ⟨rfl, hb5⟩
    refine hK.out _ _ (below_step hH.out hb5) ?_
    clear hH hK hb5 K
    intro hH
    try simp only [Act.put, List.setIfInBounds_toArray, List.set_cons_zero, List.set_cons_succ]
    iterate 2
      refine plan_take (v := ?_) rfl (by rfl) ?_ ?_
      rotate_left
      · intro w2 hSw
        have q1 := run_string_of (P := Tryz.prog) (S9.out.below hSw) 38 9 5 Tryz.underlying38 Tryz.underlying5 Tryz.underlying9
        rw [hss] at q1
        have ra := Ra9.out.below hSw Ra9.out.lt
        have ry := RY.out.below hSw RY.out.lt
        have x0 := ra.cell (j := 0) (u := p0) (by rw [HCe.out]; rfl)
        have x1 := ra.cell (j := 1) (u := p1) (by rw [HCe.out]; rfl)
        have x2 := ra.cell (j := 2) (u := p2) (by rw [HCe.out]; rfl)
        have x3 := ra.cell (j := 3) (u := p3) (by rw [HCe.out]; rfl)
        have x4 := ra.cell (j := 4) (u := p4) (by rw [HCe.out]; rfl)
        have x5 := ra.cell (j := 5) (u := p5) (by rw [HCe.out]; rfl)
        have x6 := ra.cell (j := 6) (u := p6) (by rw [HCe.out]; rfl)
        have y0 := ry.cell (j := 0) (u := e0) (by rw [HEe.out]; rfl)
        have y1 := ry.cell (j := 1) (u := e1) (by rw [HEe.out]; rfl)
        have y2 := ry.cell (j := 2) (u := e2) (by rw [HEe.out]; rfl)
        have y3 := ry.cell (j := 3) (u := e3) (by rw [HEe.out]; rfl)
        have y4 := ry.cell (j := 4) (u := e4) (by rw [HEe.out]; rfl)
        have y5 := ry.cell (j := 5) (u := e5) (by rw [HEe.out]; rfl)
        have y6 := ry.cell (j := 6) (u := e6) (by rw [HEe.out]; rfl)
        clear ra ry
        clear hSw
        go_simp
        try with_reducible rfl
      try simp only [Act.put, List.setIfInBounds_toArray, List.set_cons_zero, List.set_cons_succ]
    refine plan_done ?_
    go_wp2_with fail
    go_ret
    exact ⟨rfl, below_step B9.out hH.out⟩
theorem printM_pos (m : Msg) (M : List UInt8) : 0 < (printM m M).length := by
  have h : 0 < (printS m.start).length := by
    unfold printS
    split <;> simp only [List.length_append, List.length_cons] <;> omega
  unfold printM
  rw [List.length_append]
  omega
theorem mprints_walk (w : World) (hsh : w.ShapedOpen Tryz.prog) (s : Sta) (A : Option Addr) (n c : Nat) (L : List Fld) (B : Option Addr) (m e : Nat) (X : List UInt8) (fA : SliceIn w w.heap.size 2 A n c (fldsV L)) (fB : SliceIn w w.heap.size 1 B m e (bytesV X)) (wS : StaW s) (M : ByteArray) (_ : M.size ≤ maxLen)
    (A' : Option Addr) (n' c' : Nat) (T : List UInt8) (hin : SliceIn w w.heap.size 1 A' n' c' (bytesV T)) :
    Calls Tryz.prog 12 #[.agg (msgC s (.slice A n c) (.slice B m e)).toArray, .string M, .slice A' n' c'] w fun e w' => e = .returned (.bool true) ∧ Below w.heap.size w w' := by
  have AW : ∀ W, Below w.heap.size w W → Calls Tryz.prog 21 #[] W fun e w' => e = .returned (.bool true) ∧ Below W.heap.size W w' := fun W hW => awake08_any W (shaped_below hsh hW)
  have SA := fun (W : World) (hW : Below w.heap.size w W) => small_any s L X A B n m c e M W ((fA.below hW).more hW.size) ((fB.below hW).more hW.size)
  have hC := msgC_right s A B n c m e
  have hLn := fld_count fA
  have hXm : X.length = m := by have := fB.1; rw [bytesV_length] at this; omega
  cases hsa : smallM s L X M.size with
  | false => rw [hsa] at SA; exact mp8_far1 _ hC s.status rfl A' n' c' M w AW SA
  | true =>
    rw [hsa] at SA
    have KA := smallM_is hsa
    by_cases hn : 300 < n'
    · exact mp8_far2 _ hC s.status rfl A' n' c' M w hn AW SA
    · have FA : FldB L n := by rw [← hLn]; exact KA.fldB
      have hB := KA.staB wS
      have FC := fun (W : World) (hW : Below w.heap.size w W) => mframing_any s A n c L (.slice B m e) M W ((fA.below hW).more hW.size) FA
      have FR := fun (W : World) (hW : Below w.heap.size w W) => rframing_any s A n c L (.slice B m e) M W ((fA.below hW).more hW.size) FA
      have RR := fun (W : World) (hW : Below w.heap.size w W) => rright8_any s hB.sta L X A B n m c e M W ((fA.below hW).more hW.size) ((fB.below hW).more hW.size) FA.n FA FA.f
      have RC := fun (W : World) (hW : Below w.heap.size w W) => mright_any s hB.sta L X A B n m c e M W ((fA.below hW).more hW.size) ((fB.below hW).more hW.size) FA
      have PC := fun (W : World) (hW : Below w.heap.size w W) => mprint_any s hB wS.s0 wS.i0 L X A B n m c e M W ((fA.below hW).more hW.size) ((fB.below hW).more hW.size) FA (by have := KA.prS; omega) (by have := KA.sizeF; omega) (by have := KA.bo; omega)
      cases hra : rightM ⟨s, L, X⟩ M.data.toList with
      | false =>
        simp only [hra] at RR RC PC
        refine mp8_wrong _ hC s.status rfl A' n' c' M w _ _ _ (by omega) AW SA FC FR (fun W hW => (PC W hW).mono ?_) RR RC
        rintro x w' ⟨h | h, hb⟩
        · exact ⟨h.2, hb⟩
        · cases h.1
      | true =>
        simp only [hra] at RR RC PC
        have PR := fun (W : World) (hW : Below w.heap.size w W) => rprint8_any s hB L X A B n m c e M W ((fA.below hW).more hW.size) ((fB.below hW).more hW.size) FA FA.z (by have := KA.bo; omega)
        have za := KA.print M.data.toList
        have hM : M.size ≤ 1000000000 := by have := KA.mm; omega
        refine mp8_good _ hC s.status rfl A' n' c' M w _ _ _ T (printM ⟨s, L, X⟩ M.data.toList) _ (IsMsg (toldOf s L X)) (by omega) hin rfl (printM_pos _ _) (by omega) AW SA FC FR (fun W hW => (PC W hW).mono ?_) RR RC PR ?_ ?_ (isMsg_below _)
        · rintro x w' ⟨h | h, hb⟩
          · cases h.1
          · obtain ⟨-, v, rfl, ho⟩ := h
            exact ⟨v, rfl, ho, hb⟩
        · intro W g cap hW hg hs
          exact parse_of s L X M (s.status == 0) rfl hra (printM ⟨s, L, X⟩ M.data.toList ++ T) T rfl _ _ rfl g 0 cap W (shaped_below hsh hW) hg hM (by rw [bytesV_append]; exact hs) (by omega)
        · intro W E hW hE
          exact same_of s L X (by have := KA.fn; omega) E _ W hE (isMsg_of fA fB hW)
end Go.Proofs.YteocdpkenlkmbaaGreatDoor
