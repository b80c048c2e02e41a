/- Layer 8's laws: MessageChunks, walked. Condition: the world's shape. Printed by mklaw08f.py. -/
import Derived.Test.YteocdpkenlkmbaaGreatDoorLt
import Derived.Test.YteocdpkenlkmbaaGreatDoorPb
import Derived.Test.YteocdpkenlkmbaaGreatDoorChn1
import Derived.Test.YteocdpkenlkmbaaGreatDoorOz
namespace Go.Proofs.YteocdpkenlkmbaaGreatDoor
open Go.RowKit IH
set_option maxRecDepth 100000
set_option maxHeartbeats 4000000 in
theorem hex_any (N : Nat) (hN : N ≤ 1000000) (w : World) :
    Calls Tryz.prog 33 #[.int .i64 N] w fun e w' => e = .returned (.string ⟨(digs 16 64 N).toArray⟩) ∧ ∃ nq, w' = w.drewN nq := by
  have HN := Lib.hid hN
  clear hN
  go_enter Tryz.func33, Tryz.ntmps33
  go_wp2
  go_loopw [0, 3] (fun m t wr => ∃ (M : Nat) (T : ByteArray) (nq : Nat), m = .int .i64 M ∧ t = .string T ∧ M ≤ N ∧ digs 16 64 N = digs 16 64 M ++ T.data.toList ∧ wr = w.drewN nq) (fun m _ _ => (intOf m).toNat)
  case atStart => exact ⟨N, ⟨#[]⟩, 0, rfl, rfl, Nat.le_refl _, by simp, rfl⟩
  case round =>
    obtain ⟨M, T, nq, rfl, rfl, hMN, hdg, rfl⟩ := hrel
    have hTs : T.size ≤ 64 := digs_size hdg
    have hM6 : M ≤ 1000000 := by have := HN.out; omega
    have hm0 : (0 : Int) ≤ (M : Int) % 16 := by omega
    have hm1 : (M : Int) % 16 + 1 ≤ 16 := by omega
    have hcM := digB_cut (M % 16) (by omega)
    unfold digB at hcM
    have HcM := Lib.hid hcM
    have hM3 : (M : Int) ≤ 1000000 := by omega
    have HMN := Lib.hid hMN
    by_cases hM : M < 16
    · have hfin := digs_first hdg hM
      have hmm : M % 16 = M := Nat.mod_eq_of_lt hM
      rw [hmm] at hcM
      have HF := Lib.hid hfin
      have HcM2 := Lib.hid hcM
      have hq : (M : Int) / 16 = 0 := by omega
      have hr : (M : Int) % 16 = (M : Int) := by omega
      clear hdg hcM hfin hmm hMN HMN
      go_wp2
      go_ret
      rw [HcM2.out, HF.out]
      exact ⟨rfl, _, rfl⟩
    · have hnx := digs_next (by decide) hdg (by omega) (by omega : M < 2 ^ 63)
      have HX := Lib.hid hnx
      have hq : ((M : Int) / 16 == 0) = false := by rw [beq_eq_false_iff_ne]; omega
      clear hdg hcM hnx hMN
      go_wp2
      go_roundw
      case rel => exact ⟨M / 16, _, _, by go_num, rfl, by have := HMN.out; omega, by rw [HcM.out]; exact HX.out, rfl⟩
      case measure => simp [intOf]; omega
set_option maxHeartbeats 64000000 in
theorem mc_far1 (C : List Value) (hC : RightC C) (mi : Int) (ha : C[4]? = some (.int .i64 mi)) (A : Option Addr) (n c : Nat) (w : World)
    (AW : ∀ W, Below w.heap.size w W → Calls Tryz.prog 21 #[] W fun e w' => e = .returned (.bool true) ∧ Below W.heap.size W w')
    (SA : ∀ W, Below w.heap.size w W → Calls Tryz.prog 28 #[.agg C.toArray, .string ⟨#[71, 69, 84]⟩] W fun e w' => e = .returned (.bool false) ∧ Below W.heap.size W w') :
    Calls Tryz.prog 7 #[.agg C.toArray, .slice A n c] w fun e w' => e = .returned (.bool true) ∧ Below w.heap.size w w' := by
  have HMi : Hid ((Tryz.prog.info? 49).map (·.size) = some 7) := Lib.hid (by kernel_rfl)
  obtain ⟨w1, hw1⟩ : ∃ W : World, w.alloc (.cells C.toArray 49) = W := ⟨_, rfl⟩
  have B1 : Hid (Below w.heap.size w w1) := Lib.hid (by rw [← hw1]; exact (Below.refl _ _).alloc (Nat.le_refl _) _)
  have Ra1 : Hid (RowAt w1 w.heap.size 49 C) := Lib.hid (by rw [← hw1]; exact RowAt.new w 49 C)
  have HCi : Hid ((Tryz.prog.info? 49).map (·.size) = some C.length) := Lib.hid (by rw [hC.1]; exact HMi.out)
  have HcA := Lib.hid ha
  have tokA : Hid True := Lib.hid trivial
  clear hC ha
  replace AW := Lib.hid AW
  replace SA := Lib.hid SA
  go_enter Tryz.func7, Tryz.ntmps7
  go_wp2_with (first
    | (have _t := tokA; go_at_call 21; (with_reducible refine (AW.out _ B1.out).mono ?_); rintro e w2 ⟨rfl, hb2⟩; have B2 := Lib.hid (below_step B1.out hb2); have Ra2 := Lib.hid (Ra1.out.below hb2 Ra1.out.lt); have tokB : Hid True := Lib.hid trivial; clear hb2 tokA _t)
    | (have _t := tokB; refine wpList_load_g (by first | exact wanted_un rfl | exact wanted_yes rfl rfl rfl rfl | exact (wanted_is rfl rfl rfl rfl).trans (by simp; omega) | exact (wanted_is rfl rfl rfl rfl).trans (by simp)) 49 _ rfl w.heap.size 0 rfl C _ (rangeOf Ra2.out) Tryz.underlying49 rfl HCi.out ?_)
    | (have _t := tokB; go_at_call 28; (with_reducible refine (SA.out _ B2.out).mono ?_); rintro e w3 ⟨rfl, hb3⟩; have B3 := Lib.hid (below_step B2.out hb3); have Ra3 := Lib.hid (Ra2.out.below hb3 Ra2.out.lt); have tokC : Hid True := Lib.hid trivial; clear hb3 tokB _t)
    | (go_at_call 21; (with_reducible refine (AW.out _ B3.out).mono ?_); rintro e w9 ⟨rfl, hb9⟩; have B9 := Lib.hid (below_step B3.out hb9); clear hb9))
  go_ret
  exact ⟨rfl, B9.out⟩
set_option maxHeartbeats 64000000 in
theorem mc_far2 (C : List Value) (hC : RightC C) (mi : Int) (ha : C[4]? = some (.int .i64 mi)) (A : Option Addr) (n c : Nat) (w : World) (hn : 50 < n)
    (AW : ∀ W, Below w.heap.size w W → Calls Tryz.prog 21 #[] W fun e w' => e = .returned (.bool true) ∧ Below W.heap.size W w')
    (SA : ∀ W, Below w.heap.size w W → Calls Tryz.prog 28 #[.agg C.toArray, .string ⟨#[71, 69, 84]⟩] W fun e w' => e = .returned (.bool true) ∧ Below W.heap.size W w') :
    Calls Tryz.prog 7 #[.agg C.toArray, .slice A n c] w fun e w' => e = .returned (.bool true) ∧ Below w.heap.size w w' := by
  have HMi : Hid ((Tryz.prog.info? 49).map (·.size) = some 7) := Lib.hid (by kernel_rfl)
  obtain ⟨w1, hw1⟩ : ∃ W : World, w.alloc (.cells C.toArray 49) = W := ⟨_, rfl⟩
  have B1 : Hid (Below w.heap.size w w1) := Lib.hid (by rw [← hw1]; exact (Below.refl _ _).alloc (Nat.le_refl _) _)
  have Ra1 : Hid (RowAt w1 w.heap.size 49 C) := Lib.hid (by rw [← hw1]; exact RowAt.new w 49 C)
  have HCi : Hid ((Tryz.prog.info? 49).map (·.size) = some C.length) := Lib.hid (by rw [hC.1]; exact HMi.out)
  have HcA := Lib.hid ha
  have tokA : Hid True := Lib.hid trivial
  clear hC ha
  replace AW := Lib.hid AW
  replace SA := Lib.hid SA
  have hI : (50 : Int) < (n : Int) := by omega
  go_enter Tryz.func7, Tryz.ntmps7
  go_wp2_with (first
    | (have _t := tokA; go_at_call 21; (with_reducible refine (AW.out _ B1.out).mono ?_); rintro e w2 ⟨rfl, hb2⟩; have B2 := Lib.hid (below_step B1.out hb2); have Ra2 := Lib.hid (Ra1.out.below hb2 Ra1.out.lt); have tokB : Hid True := Lib.hid trivial; clear hb2 tokA _t)
    | (have _t := tokB; refine wpList_load_g (by first | exact wanted_un rfl | exact wanted_yes rfl rfl rfl rfl | exact (wanted_is rfl rfl rfl rfl).trans (by simp; omega) | exact (wanted_is rfl rfl rfl rfl).trans (by simp)) 49 _ rfl w.heap.size 0 rfl C _ (rangeOf Ra2.out) Tryz.underlying49 rfl HCi.out ?_)
    | (have _t := tokB; go_at_call 28; (with_reducible refine (SA.out _ B2.out).mono ?_); rintro e w3 ⟨rfl, hb3⟩; have B3 := Lib.hid (below_step B2.out hb3); have Ra3 := Lib.hid (Ra2.out.below hb3 Ra2.out.lt); have tokC : Hid True := Lib.hid trivial; clear hb3 tokB _t)
    | (go_at_call 21; (with_reducible refine (AW.out _ B3.out).mono ?_); rintro e w9 ⟨rfl, hb9⟩; have B9 := Lib.hid (below_step B3.out hb9); clear hb9))
  go_ret
  exact ⟨rfl, B9.out⟩
set_option maxHeartbeats 64000000 in
theorem mc_far3 (C : List Value) (hC : RightC C) (mi : Int) (ha : C[4]? = some (.int .i64 mi)) (A : Option Addr) (n c : Nat) (w : World) (hn : n ≤ 50)
    (AW : ∀ W, Below w.heap.size w W → Calls Tryz.prog 21 #[] W fun e w' => e = .returned (.bool true) ∧ Below W.heap.size W w')
    (SA : ∀ W, Below w.heap.size w W → Calls Tryz.prog 28 #[.agg C.toArray, .string ⟨#[71, 69, 84]⟩] W fun e w' => e = .returned (.bool true) ∧ Below W.heap.size W w')
    (RA : ∀ W, Below w.heap.size w W → Calls Tryz.prog 29 #[.agg C.toArray, .string ⟨#[71, 69, 84]⟩] W fun e w' => e = .returned (.bool false) ∧ Below W.heap.size W w') :
    Calls Tryz.prog 7 #[.agg C.toArray, .slice A n c] w fun e w' => e = .returned (.bool true) ∧ Below w.heap.size w w' := by
  have HMi : Hid ((Tryz.prog.info? 49).map (·.size) = some 7) := Lib.hid (by kernel_rfl)
  obtain ⟨w1, hw1⟩ : ∃ W : World, w.alloc (.cells C.toArray 49) = W := ⟨_, rfl⟩
  have B1 : Hid (Below w.heap.size w w1) := Lib.hid (by rw [← hw1]; exact (Below.refl _ _).alloc (Nat.le_refl _) _)
  have Ra1 : Hid (RowAt w1 w.heap.size 49 C) := Lib.hid (by rw [← hw1]; exact RowAt.new w 49 C)
  have HCi : Hid ((Tryz.prog.info? 49).map (·.size) = some C.length) := Lib.hid (by rw [hC.1]; exact HMi.out)
  have HcA := Lib.hid ha
  have tokA : Hid True := Lib.hid trivial
  clear hC ha
  replace AW := Lib.hid AW
  replace SA := Lib.hid SA
  replace RA := Lib.hid RA
  have hI : ¬ (50 : Int) < (n : Int) := by omega
  go_enter Tryz.func7, Tryz.ntmps7
  go_wp2_with (first
    | (have _t := tokA; go_at_call 21; (with_reducible refine (AW.out _ B1.out).mono ?_); rintro e w2 ⟨rfl, hb2⟩; have B2 := Lib.hid (below_step B1.out hb2); have Ra2 := Lib.hid (Ra1.out.below hb2 Ra1.out.lt); have tokB : Hid True := Lib.hid trivial; clear hb2 tokA _t)
    | (have _t := tokB; refine wpList_load_g (by first | exact wanted_un rfl | exact wanted_yes rfl rfl rfl rfl | exact (wanted_is rfl rfl rfl rfl).trans (by simp; omega) | exact (wanted_is rfl rfl rfl rfl).trans (by simp)) 49 _ rfl w.heap.size 0 rfl C _ (rangeOf Ra2.out) Tryz.underlying49 rfl HCi.out ?_)
    | (have _t := tokB; go_at_call 28; (with_reducible refine (SA.out _ B2.out).mono ?_); rintro e w3 ⟨rfl, hb3⟩; have B3 := Lib.hid (below_step B2.out hb3); have Ra3 := Lib.hid (Ra2.out.below hb3 Ra2.out.lt); have tokC : Hid True := Lib.hid trivial; clear hb3 tokB _t)
    | (have _t := tokC; refine wpList_load_g (by first | exact wanted_un rfl | exact wanted_yes rfl rfl rfl rfl | exact (wanted_is rfl rfl rfl rfl).trans (by simp; omega) | exact (wanted_is rfl rfl rfl rfl).trans (by simp)) 49 _ rfl w.heap.size 0 rfl C _ (rangeOf Ra3.out) Tryz.underlying49 rfl HCi.out ?_)
    | (have _t := tokC; go_at_call 29; (with_reducible refine (RA.out _ B3.out).mono ?_); rintro e w4 ⟨rfl, hb4⟩; have B4 := Lib.hid (below_step B3.out hb4); have Ra4 := Lib.hid (Ra3.out.below hb4 Ra3.out.lt); have a4 := Ra4.out.cell (j := 4) HcA.out; have tokD : Hid True := Lib.hid trivial; clear hb4 tokC _t)
    | (go_at_call 21; (with_reducible refine (AW.out _ B4.out).mono ?_); rintro e w9 ⟨rfl, hb9⟩; have B9 := Lib.hid (below_step B4.out hb9); clear hb9))
  go_ret
  exact ⟨rfl, B9.out⟩
set_option maxHeartbeats 64000000 in
theorem mc_far4 (C : List Value) (hC : RightC C) (mi : Int) (ha : C[4]? = some (.int .i64 mi)) (A : Option Addr) (n c : Nat) (w : World) (hn : n ≤ 50) (hmi : mi ≠ 1)
    (AW : ∀ W, Below w.heap.size w W → Calls Tryz.prog 21 #[] W fun e w' => e = .returned (.bool true) ∧ Below W.heap.size W w')
    (SA : ∀ W, Below w.heap.size w W → Calls Tryz.prog 28 #[.agg C.toArray, .string ⟨#[71, 69, 84]⟩] W fun e w' => e = .returned (.bool true) ∧ Below W.heap.size W w')
    (RA : ∀ W, Below w.heap.size w W → Calls Tryz.prog 29 #[.agg C.toArray, .string ⟨#[71, 69, 84]⟩] W fun e w' => e = .returned (.bool true) ∧ Below W.heap.size W w') :
    Calls Tryz.prog 7 #[.agg C.toArray, .slice A n c] w fun e w' => e = .returned (.bool true) ∧ Below w.heap.size w w' := by
  have HMi : Hid ((Tryz.prog.info? 49).map (·.size) = some 7) := Lib.hid (by kernel_rfl)
  obtain ⟨w1, hw1⟩ : ∃ W : World, w.alloc (.cells C.toArray 49) = W := ⟨_, rfl⟩
  have B1 : Hid (Below w.heap.size w w1) := Lib.hid (by rw [← hw1]; exact (Below.refl _ _).alloc (Nat.le_refl _) _)
  have Ra1 : Hid (RowAt w1 w.heap.size 49 C) := Lib.hid (by rw [← hw1]; exact RowAt.new w 49 C)
  have HCi : Hid ((Tryz.prog.info? 49).map (·.size) = some C.length) := Lib.hid (by rw [hC.1]; exact HMi.out)
  have HcA := Lib.hid ha
  have tokA : Hid True := Lib.hid trivial
  clear hC ha
  replace AW := Lib.hid AW
  replace SA := Lib.hid SA
  replace RA := Lib.hid RA
  have hI : ¬ (50 : Int) < (n : Int) := by omega
  have hm1 : (mi != 1) = true := by rw [bne_iff_ne]; exact hmi
  go_enter Tryz.func7, Tryz.ntmps7
  go_wp2_with (first
    | (have _t := tokA; go_at_call 21; (with_reducible refine (AW.out _ B1.out).mono ?_); rintro e w2 ⟨rfl, hb2⟩; have B2 := Lib.hid (below_step B1.out hb2); have Ra2 := Lib.hid (Ra1.out.below hb2 Ra1.out.lt); have tokB : Hid True := Lib.hid trivial; clear hb2 tokA _t)
    | (have _t := tokB; refine wpList_load_g (by first | exact wanted_un rfl | exact wanted_yes rfl rfl rfl rfl | exact (wanted_is rfl rfl rfl rfl).trans (by simp; omega) | exact (wanted_is rfl rfl rfl rfl).trans (by simp)) 49 _ rfl w.heap.size 0 rfl C _ (rangeOf Ra2.out) Tryz.underlying49 rfl HCi.out ?_)
    | (have _t := tokB; go_at_call 28; (with_reducible refine (SA.out _ B2.out).mono ?_); rintro e w3 ⟨rfl, hb3⟩; have B3 := Lib.hid (below_step B2.out hb3); have Ra3 := Lib.hid (Ra2.out.below hb3 Ra2.out.lt); have tokC : Hid True := Lib.hid trivial; clear hb3 tokB _t)
    | (have _t := tokC; refine wpList_load_g (by first | exact wanted_un rfl | exact wanted_yes rfl rfl rfl rfl | exact (wanted_is rfl rfl rfl rfl).trans (by simp; omega) | exact (wanted_is rfl rfl rfl rfl).trans (by simp)) 49 _ rfl w.heap.size 0 rfl C _ (rangeOf Ra3.out) Tryz.underlying49 rfl HCi.out ?_)
    | (have _t := tokC; go_at_call 29; (with_reducible refine (RA.out _ B3.out).mono ?_); rintro e w4 ⟨rfl, hb4⟩; have B4 := Lib.hid (below_step B3.out hb4); have Ra4 := Lib.hid (Ra3.out.below hb4 Ra3.out.lt); have a4 := Ra4.out.cell (j := 4) HcA.out; have tokD : Hid True := Lib.hid trivial; clear hb4 tokC _t)
    | (go_at_call 21; (with_reducible refine (AW.out _ B4.out).mono ?_); rintro e w9 ⟨rfl, hb9⟩; have B9 := Lib.hid (below_step B4.out hb9); clear hb9))
  go_ret
  exact ⟨rfl, B9.out⟩
set_option maxHeartbeats 64000000 in
theorem mc_other (C : List Value) (hC : RightC C) (mi : Int) (ha : C[4]? = some (.int .i64 mi)) (A : Option Addr) (n c : Nat) (w : World) (kd kn ke : Int) (hn : n ≤ 50) (hmi : mi = 1) (hk : kd ≠ 2)
    (AW : ∀ W, Below w.heap.size w W → Calls Tryz.prog 21 #[] W fun e w' => e = .returned (.bool true) ∧ Below W.heap.size W w')
    (SA : ∀ W, Below w.heap.size w W → Calls Tryz.prog 28 #[.agg C.toArray, .string ⟨#[71, 69, 84]⟩] W fun e w' => e = .returned (.bool true) ∧ Below W.heap.size W w')
    (RA : ∀ W, Below w.heap.size w W → Calls Tryz.prog 29 #[.agg C.toArray, .string ⟨#[71, 69, 84]⟩] W fun e w' => e = .returned (.bool true) ∧ Below W.heap.size W w')
    (FR : ∀ W, Below w.heap.size w W → Calls Tryz.prog 32 #[.agg C.toArray, .string ⟨#[71, 69, 84]⟩] W fun e w' => e = .returned (.tuple #[.int .i64 kd, .int .i64 kn, .int .i64 ke]) ∧ Below W.heap.size W w') :
    Calls Tryz.prog 7 #[.agg C.toArray, .slice A n c] w fun e w' => e = .returned (.bool true) ∧ Below w.heap.size w w' := by
  have HMi : Hid ((Tryz.prog.info? 49).map (·.size) = some 7) := Lib.hid (by kernel_rfl)
  obtain ⟨w1, hw1⟩ : ∃ W : World, w.alloc (.cells C.toArray 49) = W := ⟨_, rfl⟩
  have B1 : Hid (Below w.heap.size w w1) := Lib.hid (by rw [← hw1]; exact (Below.refl _ _).alloc (Nat.le_refl _) _)
  have Ra1 : Hid (RowAt w1 w.heap.size 49 C) := Lib.hid (by rw [← hw1]; exact RowAt.new w 49 C)
  have HCi : Hid ((Tryz.prog.info? 49).map (·.size) = some C.length) := Lib.hid (by rw [hC.1]; exact HMi.out)
  have HcA := Lib.hid ha
  have tokA : Hid True := Lib.hid trivial
  clear hC ha
  replace AW := Lib.hid AW
  replace SA := Lib.hid SA
  replace RA := Lib.hid RA
  replace FR := Lib.hid FR
  have hI : ¬ (50 : Int) < (n : Int) := by omega
  have hk2 : (kd != 2) = true := by rw [bne_iff_ne]; exact hk
  subst hmi
  go_enter Tryz.func7, Tryz.ntmps7
  go_upto_region 1 with fail
  go_cut [37] from 15 to 37 (fun s37 wx => s37 = .bool false ∧ RowAt wx w.heap.size 49 C ∧ Below w.heap.size w wx)
  case first =>
    go_wp2_with (first
      | (have _t := tokA; go_at_call 21; (with_reducible refine (AW.out _ B1.out).mono ?_); rintro e w2 ⟨rfl, hb2⟩; have B2 := Lib.hid (below_step B1.out hb2); have Ra2 := Lib.hid (Ra1.out.below hb2 Ra1.out.lt); have tokB : Hid True := Lib.hid trivial; clear hb2 tokA _t)
      | (have _t := tokB; refine wpList_load_g (by first | exact wanted_un rfl | exact wanted_yes rfl rfl rfl rfl | exact (wanted_is rfl rfl rfl rfl).trans (by simp; omega) | exact (wanted_is rfl rfl rfl rfl).trans (by simp)) 49 _ rfl w.heap.size 0 rfl C _ (rangeOf Ra2.out) Tryz.underlying49 rfl HCi.out ?_)
      | (have _t := tokB; go_at_call 28; (with_reducible refine (SA.out _ B2.out).mono ?_); rintro e w3 ⟨rfl, hb3⟩; have B3 := Lib.hid (below_step B2.out hb3); have Ra3 := Lib.hid (Ra2.out.below hb3 Ra2.out.lt); have tokC : Hid True := Lib.hid trivial; clear hb3 tokB _t)
      | (have _t := tokC; refine wpList_load_g (by first | exact wanted_un rfl | exact wanted_yes rfl rfl rfl rfl | exact (wanted_is rfl rfl rfl rfl).trans (by simp; omega) | exact (wanted_is rfl rfl rfl rfl).trans (by simp)) 49 _ rfl w.heap.size 0 rfl C _ (rangeOf Ra3.out) Tryz.underlying49 rfl HCi.out ?_)
      | (have _t := tokC; go_at_call 29; (with_reducible refine (RA.out _ B3.out).mono ?_); rintro e w4 ⟨rfl, hb4⟩; have B4 := Lib.hid (below_step B3.out hb4); have Ra4 := Lib.hid (Ra3.out.below hb4 Ra3.out.lt); have a4 := Ra4.out.cell (j := 4) HcA.out; have tokD : Hid True := Lib.hid trivial; clear hb4 tokC _t))
    go_meet
    exact ⟨by rw [decide_eq_false (show ¬ (50 : Int) < (n : Int) by omega)], Ra4.out, B4.out⟩
  case rest =>
  obtain ⟨w4, hw4⟩ : ∃ W : World, W = wc := ⟨_, rfl⟩
  subst hw4
  obtain ⟨rfl, hra4, hb4⟩ := hcut
  have B4 := Lib.hid hb4
  have Ra4 := Lib.hid hra4
  clear hra4 hb4 AW SA RA
  go_upto_region 4 with (first
    | (refine wpList_load_g (by first | exact wanted_un rfl | exact wanted_yes rfl rfl rfl rfl | exact (wanted_is rfl rfl rfl rfl).trans (by simp; omega) | exact (wanted_is rfl rfl rfl rfl).trans (by simp)) 49 _ rfl w.heap.size 0 rfl C _ (rangeOf Ra4.out) Tryz.underlying49 rfl HCi.out ?_)
    | (go_at_call 32; (with_reducible refine (FR.out _ B4.out).mono ?_); rintro e w5 ⟨rfl, hb5⟩; have B5 := Lib.hid (below_step B4.out hb5); have Ra5 := Lib.hid (Ra4.out.below hb5 Ra4.out.lt); clear hb5))
  clear FR Ra4 B4
  go_wp2_with fail
  go_ret
  exact ⟨rfl, B5.out⟩
set_option maxHeartbeats 64000000 in
theorem mc_good (C : List Value) (hC : RightC C) (mi : Int) (ha : C[4]? = some (.int .i64 mi)) (A : Option Addr) (n c : Nat) (w : World) (p0 p1 p3 p4 : Value) (st : Int) (A2 A3 : Option Addr) (n2 c2 n3 c3 : Nat) (X : List UInt8) (K : List UInt8) (kn ke : Int) (S0 S1 : ByteArray) (z : Nat) (G : List Value → World → Prop) (hn : n ≤ 50) (hmi : mi = 1)
    (hCe : C = [p0, p1, .int .i64 st, p3, p4, .slice A2 n2 c2, .slice A3 n3 c3]) (hin : SliceIn w w.heap.size 1 A n c (bytesV K)) (hX : SliceIn w w.heap.size 1 A3 n3 c3 (bytesV X)) (hX3 : n3 ≤ 3000) (hz0 : S0.size = z + 5) (hz1 : S0.extract 0 z = S1) (hz2 : S1.size = z) (hz3 : z ≤ 200000)
    (AW : ∀ W, Below w.heap.size w W → Calls Tryz.prog 21 #[] W fun e w' => e = .returned (.bool true) ∧ Below W.heap.size W w')
    (SA : ∀ W, Below w.heap.size w W → Calls Tryz.prog 28 #[.agg C.toArray, .string ⟨#[71, 69, 84]⟩] W fun e w' => e = .returned (.bool true) ∧ Below W.heap.size W w')
    (RA : ∀ W, Below w.heap.size w W → Calls Tryz.prog 29 #[.agg C.toArray, .string ⟨#[71, 69, 84]⟩] W fun e w' => e = .returned (.bool true) ∧ Below W.heap.size W w')
    (FR : ∀ W, Below w.heap.size w W → Calls Tryz.prog 32 #[.agg C.toArray, .string ⟨#[71, 69, 84]⟩] W fun e w' => e = .returned (.tuple #[.int .i64 2, .int .i64 kn, .int .i64 ke]) ∧ Below W.heap.size W w')
    (PA : ∀ W, Below w.heap.size w W → Calls Tryz.prog 30 #[.agg #[p0, p1, .int .i64 st, p3, p4, .slice A2 n2 c2, .slice none 0 0], .string ⟨#[71, 69, 84]⟩] W fun e w' => e = .returned (.string S0) ∧ Below W.heap.size W w')
    (U : ∀ W (S : ByteArray) (T : List UInt8) g cap nz, (S ++ (⟨#[48, 13, 10, 120, 58, 32, 121, 13, 10, 13, 10]⟩ : ByteArray)).size = nz → Below w.heap.size w W → S.size ≤ 300000 → S.data.toList = S1.data.toList ++ T → InChunks X X.length T → g < W.heap.size → SliceIn W W.heap.size 1 (some ⟨g, 0, none⟩) nz cap (bytesV (S ++ (⟨#[48, 13, 10, 120, 58, 32, 121, 13, 10, 13, 10]⟩ : ByteArray)).data.toList) → Calls Tryz.prog 31 #[.slice (some ⟨g, 0, none⟩) nz cap, .bool (st == 0), .string ⟨#[71, 69, 84]⟩] W fun e w' => ∃ E, e = .returned (.tuple #[.agg E.toArray, .int .i64 ((S.size : Int) + 11), .int .i64 0]) ∧ RightC E ∧ (∀ W', Fresh W.heap.size w' W' → G E W') ∧ Below W.heap.size W w')
    (SM : ∀ W E, Below w.heap.size w W → G E W → Calls Tryz.prog 27 #[.agg E.toArray, .agg C.toArray] W fun e w' => e = .returned (.bool true) ∧ Below W.heap.size W w') :
    Calls Tryz.prog 7 #[.agg C.toArray, .slice A n c] w fun e w' => e = .returned (.bool true) ∧ Below w.heap.size w w' := by
  have HMi : Hid ((Tryz.prog.info? 49).map (·.size) = some 7) := Lib.hid (by kernel_rfl)
  obtain ⟨w1, hw1⟩ : ∃ W : World, w.alloc (.cells C.toArray 49) = W := ⟨_, rfl⟩
  have B1 : Hid (Below w.heap.size w w1) := Lib.hid (by rw [← hw1]; exact (Below.refl _ _).alloc (Nat.le_refl _) _)
  have Ra1 : Hid (RowAt w1 w.heap.size 49 C) := Lib.hid (by rw [← hw1]; exact RowAt.new w 49 C)
  have HCi : Hid ((Tryz.prog.info? 49).map (·.size) = some C.length) := Lib.hid (by rw [hC.1]; exact HMi.out)
  have HcA := Lib.hid ha
  have tokA : Hid True := Lib.hid trivial
  clear hC ha
  replace AW := Lib.hid AW
  replace SA := Lib.hid SA
  replace RA := Lib.hid RA
  replace FR := Lib.hid FR
  replace PA := Lib.hid PA
  replace U := Lib.hid U
  replace SM := Lib.hid SM
  have hI : ¬ (50 : Int) < (n : Int) := by omega
  subst hmi
  have HCe := Lib.hid hCe
  have Hin := Lib.hid hin
  have HX := Lib.hid hX
  have HX3 := Lib.hid hX3
  have hXl : X.length = n3 := by have := hX.1; rw [bytesV_length] at this; omega
  have hKl : K.length = n := by have := hin.1; rw [bytesV_length] at this; omega
  have HXl := Lib.hid hXl
  have HKl := Lib.hid hKl
  have Hn := Lib.hid hn
  have HZ0 := Lib.hid hz0
  have HZ1 := Lib.hid hz1
  have HZ2 := Lib.hid hz2
  have HZ3 := Lib.hid hz3
  clear hCe hin hX hX3 hXl hKl hn hz0 hz1 hz2 hz3
  go_enter Tryz.func7, Tryz.ntmps7
  go_upto_region 1 with fail
  go_cut [37] from 15 to 37 (fun s37 wx => s37 = .bool false ∧ RowAt wx w.heap.size 49 C ∧ Below w.heap.size w wx)
  case first =>
    go_wp2_with (first
      | (have _t := tokA; go_at_call 21; (with_reducible refine (AW.out _ B1.out).mono ?_); rintro e w2 ⟨rfl, hb2⟩; have B2 := Lib.hid (below_step B1.out hb2); have Ra2 := Lib.hid (Ra1.out.below hb2 Ra1.out.lt); have tokB : Hid True := Lib.hid trivial; clear hb2 tokA _t)
      | (have _t := tokB; refine wpList_load_g (by first | exact wanted_un rfl | exact wanted_yes rfl rfl rfl rfl | exact (wanted_is rfl rfl rfl rfl).trans (by simp; omega) | exact (wanted_is rfl rfl rfl rfl).trans (by simp)) 49 _ rfl w.heap.size 0 rfl C _ (rangeOf Ra2.out) Tryz.underlying49 rfl HCi.out ?_)
      | (have _t := tokB; go_at_call 28; (with_reducible refine (SA.out _ B2.out).mono ?_); rintro e w3 ⟨rfl, hb3⟩; have B3 := Lib.hid (below_step B2.out hb3); have Ra3 := Lib.hid (Ra2.out.below hb3 Ra2.out.lt); have tokC : Hid True := Lib.hid trivial; clear hb3 tokB _t)
      | (have _t := tokC; refine wpList_load_g (by first | exact wanted_un rfl | exact wanted_yes rfl rfl rfl rfl | exact (wanted_is rfl rfl rfl rfl).trans (by simp; omega) | exact (wanted_is rfl rfl rfl rfl).trans (by simp)) 49 _ rfl w.heap.size 0 rfl C _ (rangeOf Ra3.out) Tryz.underlying49 rfl HCi.out ?_)
      | (have _t := tokC; go_at_call 29; (with_reducible refine (RA.out _ B3.out).mono ?_); rintro e w4 ⟨rfl, hb4⟩; have B4 := Lib.hid (below_step B3.out hb4); have Ra4 := Lib.hid (Ra3.out.below hb4 Ra3.out.lt); have a4 := Ra4.out.cell (j := 4) HcA.out; have tokD : Hid True := Lib.hid trivial; clear hb4 tokC _t))
    go_meet
    exact ⟨by rw [decide_eq_false (show ¬ (50 : Int) < (n : Int) by omega)], Ra4.out, B4.out⟩
  case rest =>
  obtain ⟨w4, hw4⟩ : ∃ W : World, W = wc := ⟨_, rfl⟩
  subst hw4
  obtain ⟨rfl, hra4, hb4⟩ := hcut
  have B4 := Lib.hid hb4
  have Ra4 := Lib.hid hra4
  clear hra4 hb4 AW SA RA
  go_upto_region 4 with (first
    | (refine wpList_load_g (by first | exact wanted_un rfl | exact wanted_yes rfl rfl rfl rfl | exact (wanted_is rfl rfl rfl rfl).trans (by simp; omega) | exact (wanted_is rfl rfl rfl rfl).trans (by simp)) 49 _ rfl w.heap.size 0 rfl C _ (rangeOf Ra4.out) Tryz.underlying49 rfl HCi.out ?_)
    | (go_at_call 32; (with_reducible refine (FR.out _ B4.out).mono ?_); rintro e w5 ⟨rfl, hb5⟩; have B5 := Lib.hid (below_step B4.out hb5); have Ra5 := Lib.hid (Ra4.out.below hb5 Ra4.out.lt); clear hb5))
  clear FR Ra4 B4
  have ra5 := Ra5.out
  rw [HCe.out] at ra5
  have x0 := ra5.cell (j := 0) rfl
  have x1 := ra5.cell (j := 1) rfl
  have x2 := ra5.cell (j := 2) rfl
  have x3 := ra5.cell (j := 3) rfl
  have x4 := ra5.cell (j := 4) rfl
  have x5 := ra5.cell (j := 5) rfl
  clear ra5
  go_upto_region 7 with (first
    | (go_at_call 30; (with_reducible refine (PA.out _ B5.out).mono ?_); rintro e w6 ⟨rfl, hb6⟩; have B6 := Lib.hid (below_step B5.out hb6); have Ra6 := Lib.hid (Ra5.out.below hb6 Ra5.out.lt); clear hb6))
  clear PA Ra5 B5 x0 x1 x2 x3 x4 x5
  have hw5 : IntKind.i64.wrap ((S0.size : Int) - 5) = (z : Int) := by rw [IntWalk.i64_in _ ⟨by have := HZ0.out; omega, by have := HZ0.out; have := HZ3.out; omega⟩]; have := HZ0.out; omega
  have hw6 : (z : Int) ≤ (S0.size : Int) := by have := HZ0.out; omega
  have hw7 := HZ1.out
  go_wp2_with fail
  clear hw5 hw6 hw7 B1 Ra1 tokA
  go_loopw [8, 9, 10] (fun sv av iv wr => ∃ (S : ByteArray) (T : List UInt8) (a i : Nat), sv = .string S ∧ av = .int .i64 a ∧ iv = .int .i64 i ∧ S.data.toList = S1.data.toList ++ T ∧ InChunks X a T ∧ a ≤ n3 ∧ i ≤ n + 1 ∧ (i ≤ n ∨ a = n3) ∧ S.size ≤ 200000 + a + 70 * i ∧ Below w6.heap.size w6 wr) (fun _ _ iv _ => n + 1 - (intOf iv).toNat)
  case atStart =>
    exact ⟨S1, [], 0, 0, rfl, rfl, rfl, by simp, inChunks_zero X, Nat.zero_le _, by omega, .inl (Nat.zero_le _), by have := HZ2.out; have := HZ3.out; omega, Below.refl _ _⟩
  case round =>
    obtain ⟨wq, hwq⟩ : ∃ x : World, x = wr := ⟨_, rfl⟩
    subst hwq
    obtain ⟨S, T, a, i, rfl, rfl, rfl, hS, hT, ha3, hi1, hia, hSz, hbq⟩ := hrel
    have Bq := Lib.hid (below_step B6.out hbq)
    have Raq := Lib.hid (Ra6.out.below hbq Ra6.out.lt)
    have HbQ := Lib.hid hbq
    have HS := Lib.hid hS
    have HT := Lib.hid hT
    have HA := Lib.hid ha3
    have HI := Lib.hid hi1
    have HIA := Lib.hid hia
    have HSz := Lib.hid hSz
    have raq := Raq.out
    rw [HCe.out] at raq
    have x6 := raq.cell (j := 6) rfl
    have x2 := raq.cell (j := 2) rfl
    clear hS hT ha3 hi1 hia hSz hbq raq
    by_cases han : a < n3
    · have hin' : i ≤ n := by have := HIA.out; omega
      have hiI : (i : Int) ≤ (n : Int) := by omega
      have haI : (a : Int) < (n3 : Int) := by omega
      obtain ⟨r, hr⟩ : ∃ r, n3 - a = r := ⟨_, rfl⟩
      have hsub : IntKind.i64.wrap ((n3 : Int) - (a : Int)) = (r : Int) := by rw [IntWalk.i64_in _ ⟨by omega, by have := HX3.out; omega⟩]; omega
      have Hr := Lib.hid hr
      have Han := Lib.hid han
      have Hin2 := Lib.hid hin'
      clear hr han hin'
      go_upto_if 79 with fail
      obtain ⟨ib, hib⟩ : ∃ x, decide (i < n) = x := ⟨_, rfl⟩
      simp only [hib]
      have HIB := Lib.hid hib
      clear hib
      go_cut [11] from 80 to 87 (fun s11 wx => ∃ k : Nat, s11 = .int .i64 k ∧ 0 < k ∧ a + k ≤ n3 ∧ (i = n → a + k = n3) ∧ wx = wq)
      case first =>
        have h5 := Hin2.out
        have h6 := Hr.out
        have h7 := Han.out
        cases ib
        rotate_left
        · have hi : i < n := of_decide_eq_true HIB.out
          have hi' : (i : Int) < (n : Int) := by omega
          obtain ⟨b1, o1, hA, hb1, hcel⟩ := Hin.out.2.2.2 (by omega)
          obtain ⟨u, hu⟩ : ∃ u, K[i]? = some u := ⟨_, List.getElem?_eq_getElem (by have := HKl.out; omega)⟩
          have hcl := hcel i (byteV u) (by rw [bytesV_get, hu]; rfl)
          have hcq := (Bq.out.cell (p := ⟨b1, o1 + i, none⟩) hb1).trans hcl
          unfold byteV at hcq
          obtain ⟨k, hk⟩ : ∃ k, min r (1 + u.toNat) = k := ⟨_, rfl⟩
          have hul := u.toNat_lt
          have hmn : min (r : Int) (1 + (u.toNat : Int)) = (k : Int) := by omega
          have hadd : IntKind.i64.wrap (1 + (u.toNat : Int)) = 1 + (u.toNat : Int) := IntWalk.i64_in _ ⟨by omega, by omega⟩
          have Hk := Lib.hid hk
          have hu0 : (u.toNat : Int) < 256 := by omega
          obtain ⟨un, hun⟩ : ∃ x, u.toNat = x := ⟨_, rfl⟩
          rw [hun] at hcq hmn hadd hu0
          have Hun := Lib.hid hun
          clear hk hcl hcel hu hun hul
          subst hA
          go_wp2_with fail
          go_meet
          exact ⟨k, rfl, by have := Hk.out; omega, by have := Hk.out; omega, fun h => by omega, rfl⟩
        · have hi' : ¬ ((i : Int) < (n : Int)) := by have := of_decide_eq_false HIB.out; omega
          go_wp2_with fail
          go_meet
          exact ⟨r, rfl, by omega, by omega, fun _ => by omega, rfl⟩
      case rest =>
      obtain ⟨k, rfl, hk0, hka, hkn, hwc⟩ := hcut
      have Hkn := Lib.hid hkn
      clear hkn
      subst wc
      have HSz1 : Hid (S.size ≤ 210000) := Lib.hid (by have := HSz.out; have := HA.out; have := HI.out; have := HX3.out; have := Hn.out; omega)
      obtain ⟨b3, o3, hA3, hb3, -⟩ := HX.out.2.2.2 (by omega)
      obtain ⟨q, hq⟩ : ∃ q, a + k = q := ⟨_, rfl⟩
      have sub := ((HX.out.below Bq.out).more Bq.out.size).sub (a := a) (b := q) (by omega) (by omega) (some ⟨b3, o3 + a, none⟩) (fun _ => by rw [hA3]; show some _ = some (Addr.add _ _); rw [add_plain]; simp)
      rw [Nat.mul_one, Nat.mul_one, show (q - a = k) from by omega] at sub
      rw [show k = q - a by omega] at sub
      obtain ⟨Pc, hPc⟩ : ∃ x, (X.drop a).take k = x := ⟨_, rfl⟩
      have hbs : ((bytesV X).drop a).take (q - a) = bytesV Pc := by rw [show q - a = k by omega, ← hPc]; simp [bytesV, List.map_drop, List.map_take]
      rw [hbs] at sub
      have HPc := Lib.hid hPc
      have Sub := Lib.hid sub
      have hx := hex_any k (by have := HX3.out; omega)
      obtain ⟨Hx, hHx⟩ : ∃ x : ByteArray, (⟨(digs 16 64 k).toArray⟩ : ByteArray) = x := ⟨_, rfl⟩
      have hHs : Hx.size ≤ 64 := by rw [← hHx, size_mk]; exact digs_length _ _ _
      have hHd : Hx.data.toList = digs 16 64 k := by rw [← hHx]
      rw [hHx] at hx
      have HXX := Lib.hid hx
      have HHs := Lib.hid hHs
      have HHd := Lib.hid hHd
      obtain ⟨Pb, hPb⟩ : ∃ x : ByteArray, (⟨Pc.toArray⟩ : ByteArray) = x := ⟨_, rfl⟩
      have hPs : Pb.size ≤ 3000 := by rw [← hPb, size_mk, ← hPc, List.length_take]; have := HX3.out; omega
      have hPd : Pb.data.toList = Pc := by rw [← hPb]
      have hPk : Pb.size ≤ k := by rw [← hPb, size_mk, ← hPc, List.length_take]; omega
      have HPk := Lib.hid hPk
      have HPs := Lib.hid hPs
      have HPd := Lib.hid hPd
      have HPb := Lib.hid hPb
      have hak : IntKind.i64.wrap ((a : Int) + (k : Int)) = (q : Int) := by rw [IntWalk.i64_in _ ⟨by omega, by have := HX3.out; omega⟩]; omega
      have hs1 : a ≤ q := by omega
      have hs2 : q ≤ c3 := by have := HX.out.2.1; omega
      have hs3 : a < c3 := by have := HX.out.2.1; omega
      have hs4 : ¬ c3 = a := by omega
      have Hq := Lib.hid hq
      have Hk0 := Lib.hid hk0
      have Hka := Lib.hid hka
      subst hA3
      clear hq sub hbs hx hPc hPb hHx hHs hHd hPs hPk hPd hk0 hka hb3 hsub x2
      go_upto_region 15 with fail
      refine wp_region_plan (fun W => Below wq.heap.size wq W) [(0, true), (1, true), (4, true), (5, true), (6, true), (7, true), (8, true), (9, true), (10, true), (11, true), (2, false), (3, true), (12, true), (13, true), (14, true), (15, true)] (by kernel_rfl) (by kernel_rfl) rfl (by kernel_rfl) (below_drewN (Below.refl _ _) 1) ?_
      have zS := HSz1.out
      have zH := HHs.out
      have zP := HPs.out
      intro w1 hH
      iterate 10
        refine plan_take (v := ?_) rfl (by rfl) ?_ ?_
        rotate_left
        · intro w2 hSw
          have q1 := run_string_of (P := Tryz.prog) (Sub.out.below hSw) 38 9 5 Tryz.underlying38 Tryz.underlying5 Tryz.underlying9
          rw [HPb.out] at q1
          have y6 := (hSw.cell (p := ⟨w.heap.size, 6, none⟩) Raq.out.lt).trans x6
          clear hSw
          go_simp
          try with_reducible rfl
        try simp only [Act.put, List.setIfInBounds_toArray, List.set_cons_zero, List.set_cons_succ]
      refine plan_move rfl (by rfl) (fun K hK => ?_)
      go_simp
      (with_reducible refine (HXX.out _).mono ?_)
      rintro e w5 ⟨rfl, nq, rfl⟩
      refine hK.out _ _ (below_drewN hH.out nq) ?_
      clear hH hK K
      intro hH
      try simp only [Act.put, List.setIfInBounds_toArray, List.set_cons_zero, List.set_cons_succ]
      iterate 4
        refine plan_add rfl (by rfl) _ _ _ _ rfl _ _ (by rfl) (by rfl) (by first | omega | (simp [mk_size]; omega)) ?_
        try simp only [Act.put, List.setIfInBounds_toArray, List.set_cons_zero, List.set_cons_succ]
      iterate 1
        refine plan_take (v := ?_) rfl (by rfl) ?_ ?_
        rotate_left
        · intro w2 hSw
          have q1 := run_string_of (P := Tryz.prog) (Sub.out.below hSw) 38 9 5 Tryz.underlying38 Tryz.underlying5 Tryz.underlying9
          rw [HPb.out] at q1
          have y6 := (hSw.cell (p := ⟨w.heap.size, 6, none⟩) Raq.out.lt).trans x6
          clear hSw
          go_simp
          try with_reducible rfl
        try simp only [Act.put, List.setIfInBounds_toArray, List.set_cons_zero, List.set_cons_succ]
      refine plan_done ?_
      have hi1 := Hin2.out
      have hb2 := Lib.hid hH.out
      clear hH
      go_wp2_with fail
      go_roundw
      case rel =>
        refine ⟨_, T ++ (digs 16 64 k ++ 13 :: 10 :: (Pc ++ [13, 10])), q, i + 1, rfl, by go_num, by go_num, ?_, ?_, by have := Hka.out; have := Hq.out; omega, by omega, ?_, ?_, ?_⟩
        · simp only [append_data]
          rw [HS.out, HHd.out, HPd.out]
          simp [List.append_assoc]
        · rw [← HPc.out, ← Hq.out]
          exact inChunks_next HT.out Hk0.out (by rw [HXl.out]; exact Hka.out)
        · by_cases hin : i = n
          · exact .inr (by have := Hkn.out hin; have := Hq.out; omega)
          · exact .inl (by omega)
        · have h1 := HHs.out
          have h2 := HPk.out
          have h3 := HSz.out
          have h4 := Hq.out
          simp only [ByteArray.size_append]
          have e2 : (⟨#[13, 10]⟩ : ByteArray).size = 2 := rfl
          rw [e2]
          omega
        · exact HbQ.out.trans (hb2.out.mono HbQ.out.size)
      case measure => simp [intOf]; omega
    · have haX : a = X.length := by have := HXl.out; have := HA.out; omega
      have HTX : Hid (InChunks X X.length T) := Lib.hid (by rw [← haX]; exact HT.out)
      have HSz1 : Hid (S.size ≤ 300000) := Lib.hid (by have := HSz.out; have := HA.out; have := HI.out; have := HX3.out; have := Hn.out; omega)
      have zS := HSz1.out
      have hS11 : IntKind.i64.wrap ((S.size : Int) + 11) = (S.size : Int) + 11 := IntWalk.i64_in _ ⟨by omega, by omega⟩
      have GI : Hid (∀ E : List Value, RightC E → (Tryz.prog.info? 49).map (·.size) = some E.length) := Lib.hid (fun E h => by rw [h.1]; exact HMi.out)
      have tok7 : Hid True := Lib.hid trivial
      obtain ⟨nz, hnz⟩ : ∃ x, (S ++ (⟨#[48, 13, 10, 120, 58, 32, 121, 13, 10, 13, 10]⟩ : ByteArray)).size = x := ⟨_, rfl⟩
      have HNZ := Lib.hid hnz
      clear haX x2 hnz
      have haI : ¬ ((a : Int) < (n3 : Int)) := by omega
      by_cases hiI : (i : Int) ≤ (n : Int)
      · go_upto_region 18 with (first
          | (have _t := tok7; refine wpList_conv rfl 9 38 5 _ (S ++ (⟨#[48, 13, 10, 120, 58, 32, 121, 13, 10, 13, 10]⟩ : ByteArray)) nz rfl rfl Tryz.underlying9 Tryz.underlying38 Tryz.underlying5 HNZ.out (by have := HSz1.out; have h := HNZ.out; rw [← data_len, append_data, List.length_append, data_len] at h; simp at h; omega) ?_; intro g7 c7 w7 hs7 hg7 hb7; have B7 := Lib.hid (below_step Bq.out hb7); have Ra7 := Lib.hid (Raq.out.below hb7 Raq.out.lt); have SL7 := Lib.hid hs7; have HG7 := Lib.hid hg7; have y2 : w7.cell? ⟨w.heap.size, 2, none⟩ = some (.int .i64 st) := (by have h := Ra7.out; rw [HCe.out] at h; exact h.cell (j := 2) rfl); have tok8 : Hid True := Lib.hid trivial; clear hs7 hg7 hb7 tok7 _t)
          | (have _t := tok8; go_at_call 31; (with_reducible refine (U.out _ S T _ _ nz HNZ.out B7.out HSz1.out HS.out HTX.out HG7.out SL7.out).mono ?_); rintro e w8 ⟨E, rfl, hE8, hF8, hb8⟩; have B8 := Lib.hid (below_step B7.out hb8); have Ra8 := Lib.hid (Ra7.out.below hb8 Ra7.out.lt); have EE := Lib.hid hE8; have HF8 := Lib.hid hF8; have tok9 : Hid True := Lib.hid trivial; clear hE8 hF8 hb8 tok8 _t)
          | (have _t := tok9; refine wpList_store_row rfl 49 _ _ rfl w8.heap.size _ E zeroM rfl rfl (RowAt.new w8 49 _) (by rw [EE.out.1]; rfl) (GI.out _ EE.out) EE.out.2 ?_; intro w9 hro hoo; have hb9 := hoo.below ((Below.refl w8.heap.size w8).alloc (Nat.le_refl _) _) (Nat.le_refl _); have B9 := Lib.hid (below_step B8.out hb9); have GE9 := Lib.hid (HF8.out _ (Fresh.only (Fresh.alloc (Fresh.refl _ _) _) hoo (Or.inr (Nat.le_refl _)))); have RE9 := Lib.hid hro; have Ra9 := Lib.hid (Ra8.out.below hb9 Ra8.out.lt); have tok10 : Hid True := Lib.hid trivial; clear hro hoo hb9 tok9 _t))
        clear U y2 B7 B8 Ra7 Ra8 SL7 HG7 HF8
        go_wp2_with (first
          | (have _t := tok10; refine wpList_load_g (by first | exact wanted_un rfl | exact wanted_yes rfl rfl rfl rfl | exact (wanted_is rfl rfl rfl rfl).trans (by simp; omega) | exact (wanted_is rfl rfl rfl rfl).trans (by simp)) 49 _ rfl w8.heap.size 0 rfl E _ (rangeOf RE9.out) Tryz.underlying49 rfl (GI.out _ EE.out) ?_)
          | (have _t := tok10; refine wpList_load_g (by first | exact wanted_un rfl | exact wanted_yes rfl rfl rfl rfl | exact (wanted_is rfl rfl rfl rfl).trans (by simp; omega) | exact (wanted_is rfl rfl rfl rfl).trans (by simp)) 49 _ rfl w.heap.size 0 rfl C _ (rangeOf Ra9.out) Tryz.underlying49 rfl HCi.out ?_)
          | (go_at_call 27; (with_reducible refine (SM.out _ _ B9.out GE9.out).mono ?_); rintro e w10 ⟨rfl, hb10⟩; have B10 := Lib.hid (below_step B9.out hb10); clear hb10))
        go_ret
        exact ⟨rfl, B10.out⟩
      · go_upto_region 18 with (first
          | (have _t := tok7; refine wpList_conv rfl 9 38 5 _ (S ++ (⟨#[48, 13, 10, 120, 58, 32, 121, 13, 10, 13, 10]⟩ : ByteArray)) nz rfl rfl Tryz.underlying9 Tryz.underlying38 Tryz.underlying5 HNZ.out (by have := HSz1.out; have h := HNZ.out; rw [← data_len, append_data, List.length_append, data_len] at h; simp at h; omega) ?_; intro g7 c7 w7 hs7 hg7 hb7; have B7 := Lib.hid (below_step Bq.out hb7); have Ra7 := Lib.hid (Raq.out.below hb7 Raq.out.lt); have SL7 := Lib.hid hs7; have HG7 := Lib.hid hg7; have y2 : w7.cell? ⟨w.heap.size, 2, none⟩ = some (.int .i64 st) := (by have h := Ra7.out; rw [HCe.out] at h; exact h.cell (j := 2) rfl); have tok8 : Hid True := Lib.hid trivial; clear hs7 hg7 hb7 tok7 _t)
          | (have _t := tok8; go_at_call 31; (with_reducible refine (U.out _ S T _ _ nz HNZ.out B7.out HSz1.out HS.out HTX.out HG7.out SL7.out).mono ?_); rintro e w8 ⟨E, rfl, hE8, hF8, hb8⟩; have B8 := Lib.hid (below_step B7.out hb8); have Ra8 := Lib.hid (Ra7.out.below hb8 Ra7.out.lt); have EE := Lib.hid hE8; have HF8 := Lib.hid hF8; have tok9 : Hid True := Lib.hid trivial; clear hE8 hF8 hb8 tok8 _t)
          | (have _t := tok9; refine wpList_store_row rfl 49 _ _ rfl w8.heap.size _ E zeroM rfl rfl (RowAt.new w8 49 _) (by rw [EE.out.1]; rfl) (GI.out _ EE.out) EE.out.2 ?_; intro w9 hro hoo; have hb9 := hoo.below ((Below.refl w8.heap.size w8).alloc (Nat.le_refl _) _) (Nat.le_refl _); have B9 := Lib.hid (below_step B8.out hb9); have GE9 := Lib.hid (HF8.out _ (Fresh.only (Fresh.alloc (Fresh.refl _ _) _) hoo (Or.inr (Nat.le_refl _)))); have RE9 := Lib.hid hro; have Ra9 := Lib.hid (Ra8.out.below hb9 Ra8.out.lt); have tok10 : Hid True := Lib.hid trivial; clear hro hoo hb9 tok9 _t))
        clear U y2 B7 B8 Ra7 Ra8 SL7 HG7 HF8
        go_wp2_with (first
          | (have _t := tok10; refine wpList_load_g (by first | exact wanted_un rfl | exact wanted_yes rfl rfl rfl rfl | exact (wanted_is rfl rfl rfl rfl).trans (by simp; omega) | exact (wanted_is rfl rfl rfl rfl).trans (by simp)) 49 _ rfl w8.heap.size 0 rfl E _ (rangeOf RE9.out) Tryz.underlying49 rfl (GI.out _ EE.out) ?_)
          | (have _t := tok10; refine wpList_load_g (by first | exact wanted_un rfl | exact wanted_yes rfl rfl rfl rfl | exact (wanted_is rfl rfl rfl rfl).trans (by simp; omega) | exact (wanted_is rfl rfl rfl rfl).trans (by simp)) 49 _ rfl w.heap.size 0 rfl C _ (rangeOf Ra9.out) Tryz.underlying49 rfl HCi.out ?_)
          | (go_at_call 27; (with_reducible refine (SM.out _ _ B9.out GE9.out).mono ?_); rintro e w10 ⟨rfl, hb10⟩; have B10 := Lib.hid (below_step B9.out hb10); clear hb10))
        go_ret
        exact ⟨rfl, B10.out⟩
theorem mchunks_walk (w : World) (hsh : w.ShapedOpen Tryz.prog) (s : Sta) (A : Option Addr) (n c : Nat) (L : List Fld) (B : Option Addr) (m e : Nat) (X : List UInt8) (fA : SliceIn w w.heap.size 2 A n c (fldsV L)) (fB : SliceIn w w.heap.size 1 B m e (bytesV X)) (wS : StaW s)
    (A' : Option Addr) (n' c' : Nat) (K : List UInt8) (hin : SliceIn w w.heap.size 1 A' n' c' (bytesV K)) :
    Calls Tryz.prog 7 #[.agg (msgC s (.slice A n c) (.slice B m e)).toArray, .slice A' n' c'] w fun e w' => e = .returned (.bool true) ∧ Below w.heap.size w w' := by
  have AW : ∀ W, Below w.heap.size w W → Calls Tryz.prog 21 #[] W fun e w' => e = .returned (.bool true) ∧ Below W.heap.size W w' := fun W hW => awake08_any W (shaped_below hsh hW)
  have SA := fun (W : World) (hW : Below w.heap.size w W) => small_any s L X A B n m c e ⟨#[71, 69, 84]⟩ W ((fA.below hW).more hW.size) ((fB.below hW).more hW.size)
  have hC := msgC_right s A B n c m e
  have hLn := fld_count fA
  have hXm : X.length = m := by have := fB.1; rw [bytesV_length] at this; omega
  cases hsa : smallM s L X (⟨#[71, 69, 84]⟩ : ByteArray).size with
  | false => rw [hsa] at SA; exact mc_far1 _ hC s.minor rfl A' n' c' w AW SA
  | true =>
    rw [hsa] at SA
    have KA := smallM_is hsa
    by_cases hn : 50 < n'
    · exact mc_far2 _ hC s.minor rfl A' n' c' w hn AW SA
    · have hn' : n' ≤ 50 := by omega
      have FA : FldB L n := by rw [← hLn]; exact KA.fldB
      have RA := fun (W : World) (hW : Below w.heap.size w W) => rright8_any s (KA.staB wS).sta L X A B n m c e ⟨#[71, 69, 84]⟩ W ((fA.below hW).more hW.size) ((fB.below hW).more hW.size) FA.n FA FA.f
      have hmg : (⟨#[71, 69, 84]⟩ : ByteArray).data.toList = getN := rfl
      rw [hmg] at RA
      cases hra : rightM ⟨s, L, X⟩ getN with
      | false => rw [hra] at RA; exact mc_far3 _ hC s.minor rfl A' n' c' w hn' AW SA RA
      | true =>
        rw [hra] at RA
        by_cases hmi : s.minor = 1
        · have FR := fun (W : World) (hW : Below w.heap.size w W) => rframing_any s A n c L (.slice B m e) ⟨#[71, 69, 84]⟩ W ((fA.below hW).more hW.size) FA
          rw [hmg] at FR
          by_cases hk : (framingL s L getN).1 = 2
          · rw [hk] at FR
            have fN : ∀ W : World, SliceIn W W.heap.size 1 none 0 0 (bytesV []) := fun W => SliceIn.none_ (Nat.zero_le _)
            have PA := fun (W : World) (hW : Below w.heap.size w W) => rprint8_any s (KA.staB wS) L [] A none n 0 c 0 ⟨#[71, 69, 84]⟩ W ((fA.below hW).more hW.size) (fN W) FA FA.z (by omega)
            rw [hmg] at PA
            have hp0 := print_none (s := s) (L := L) (method := getN) hk
            have zS := KA.prS
            have zL := KA.sizeF
            have zL2 := printL_size L
            obtain ⟨S0, hS0⟩ : ∃ x : ByteArray, (⟨(printM ⟨s, L, []⟩ getN).toArray⟩ : ByteArray) = x := ⟨_, rfl⟩
            have e0 : S0.data.toList = printS s ++ printL L ++ [48, 13, 10, 13, 10] := by rw [← hS0, ← hp0]
            rw [hS0] at PA
            obtain ⟨S1, hS1⟩ : ∃ x : ByteArray, (⟨(printS s ++ printL L).toArray⟩ : ByteArray) = x := ⟨_, rfl⟩
            have e1 : S1.data.toList = printS s ++ printL L := by rw [← hS1]
            have z1 : S1.size = (printS s).length + (printL L).length := by rw [← data_len, e1, List.length_append]
            have z0 : S0.size = (printS s).length + (printL L).length + 5 := by rw [← data_len, e0, List.length_append, List.length_append]; rfl
            refine mc_good _ hC s.minor rfl A' n' c' w (.string ⟨s.method.toArray⟩) (.string ⟨s.target.toArray⟩) (.string ⟨s.reason.toArray⟩) (.int .i64 s.minor) s.status A B n c m e X K _ _ S0 S1 ((printS s).length + (printL L).length) (IsMsg (toldOf s L X)) hn' hmi rfl hin fB (by have := KA.bo; omega) z0 ?_ z1 (by omega) AW SA RA FR PA ?_ ?_
            · refine bytes_inj ?_
              rw [take_data _ _ (by omega), e0, e1]
              rw [List.take_left' (by rw [List.length_append])]
            · intro W S T g cap nz hnz hW hSz hS hT hg hs
              have hl : (S ++ (⟨#[48, 13, 10, 120, 58, 32, 121, 13, 10, 13, 10]⟩ : ByteArray)).data.toList = printS s ++ (printL L ++ (T ++ [48, 13, 10, 120, 58, 32, 121, 13, 10, 13, 10])) := by
                rw [append_data, hS, e1]; simp
              have hsz : S.size = (printS s).length + (printL L).length + T.length := by rw [← data_len, hS, e1, List.length_append, List.length_append]
              refine (mparseT_any (s.status == 0) ⟨#[71, 69, 84]⟩ g 0 _ cap _ W (shaped_below hsh hW) hg (by decide) hs (by rw [← hnz, ← data_len, append_data, List.length_append, data_len]; simp; omega)).mono ?_
              rintro x w' ⟨h, hb⟩
              have hTd := chunks_read (m := ⟨s, L, X⟩) (method := getN) hra hk hT
              rw [hmg, hl, show (s.status == 0) = decide (s.status = 0) from rfl, hTd] at h
              rcases h with ⟨h0, -⟩ | ⟨-, h0, -⟩ | ⟨-, -, A1, n1, c1, A2, n2, c2, rfl, h1, h2⟩
              · exact absurd rfl h0
              · cases h0
              · refine ⟨_, ?_, msgC_right _ _ _ _ _ _ _, fun W' hf => ⟨_, _, _, _, _, _, rfl, SliceIn.of_own (own_fresh h1 hf), SliceIn.of_own (own_fresh h2 hf)⟩, hb⟩
                rw [show ((S.size : Int) + 11) = (((printS s).length + (printL L).length + T.length + 11 : Nat) : Int) by omega]
                rfl
            · intro W E hW hE
              exact same_of s L X (by have := KA.fn; omega) E _ W hE (isMsg_of fA fB hW)
          · exact mc_other _ hC s.minor rfl A' n' c' w _ _ _ hn' hmi hk AW SA RA FR
        · exact mc_far4 _ hC s.minor rfl A' n' c' w hn' hmi AW SA RA
end Go.Proofs.YteocdpkenlkmbaaGreatDoor
