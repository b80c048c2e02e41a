/- Walk of layer 2's document: a moment's forms. Condition: the moment is one that has forms. -/
import Derived.Test.YtpmidmdodjgeeaaDoorRefB
import Derived.Test.YtpmidmdodjgeeaaDoorDat5
namespace Go.Proofs.YtpmidmdodjgeeaaDoor
open Go.RowKit IH
set_option maxRecDepth 100000
theorem form_cats (y m d k t : Int) :
    (⟨(form0 y m d k t).toArray⟩ : ByteArray) = cat0 ⟨(dayN k).toArray⟩ ⟨(d2 d).toArray⟩ ⟨(monN m).toArray⟩ ⟨(d4 y).toArray⟩ (⟨(d2 (t / 3600)).toArray⟩ ++ ⟨#[58]⟩ ++ ⟨(d2 (t / 60 % 60)).toArray⟩ ++ ⟨#[58]⟩ ++ ⟨(d2 (t % 60)).toArray⟩) ∧
    (⟨(form1 y m d k t).toArray⟩ : ByteArray) = cat1 ⟨(dayN k).toArray⟩ ⟨(d2 d).toArray⟩ ⟨(monN m).toArray⟩ ⟨(d2 (y % 100)).toArray⟩ (⟨(d2 (t / 3600)).toArray⟩ ++ ⟨#[58]⟩ ++ ⟨(d2 (t / 60 % 60)).toArray⟩ ++ ⟨#[58]⟩ ++ ⟨(d2 (t % 60)).toArray⟩) ∧
    (⟨(form2 y m d k t).toArray⟩ : ByteArray) = cat2 ⟨(dayN k).toArray⟩ ⟨(short2 d).toArray⟩ ⟨(monN m).toArray⟩ ⟨(d4 y).toArray⟩ (⟨(d2 (t / 3600)).toArray⟩ ++ ⟨#[58]⟩ ++ ⟨(d2 (t / 60 % 60)).toArray⟩ ++ ⟨#[58]⟩ ++ ⟨(d2 (t % 60)).toArray⟩) := by
  refine ⟨?_, ?_, ?_⟩
  · apply bytes_inj; simp [cat0, form0, gmt, clockL, -List.append_assoc]
  · apply bytes_inj; simp [cat1, form1, gmt, clockL]
  · apply bytes_inj; simp [cat2, form2, clockL]

set_option maxHeartbeats 4000000 in
theorem refForm0 {mt y m d : Int} (hM : Moment mt y m d) (w : World) :
    Calls Tryd.prog 37 #[.int .i64 mt, .int .i64 0] w fun e w' => e = .returned (.string ⟨(formOf 0 mt y m d).toArray⟩) ∧ Below w.heap.size w w' := by
  have hyy := hM.year
  have h0 := hM.h0
  have h1 := hM.h1
  have hml := mlen_bd y m
  obtain ⟨hm1, hm2, hd1, hd2, _⟩ := hM.civ
  have WH := refWhen_any hM
  have e0 : formOf 0 mt y m d = form0 y m d (mt / 86400 % 7) (mt % 86400) := rfl
  rw [e0, (form_cats y m d (mt / 86400 % 7) (mt % 86400)).1]
  have DY := refDay_any ((mt / 86400 + 4) % 7) (by omega) (by omega)
  have ew : ((mt / 86400 + 4) % 7 + 3) % 7 = mt / 86400 % 7 := by omega
  rw [ew] at DY
  have zW := dayN_size (mt / 86400 % 7) (by omega) (by omega)
  obtain ⟨t, ht⟩ : ∃ t, mt % 86400 = t := ⟨_, rfl⟩
  have t0 : 0 ≤ t := by omega
  have t1 : t < 86400 := by omega
  rw [ht]
  have G := dig2_any
  have G4 := dig4_any y (by omega) (by omega)
  have A1 := G (t / 3600) (by omega) (by omega)
  have A2 := G (t / 60 % 60) (by omega) (by omega)
  have A3 := G (t % 60) (by omega) (by omega)
  have AD := G d (by omega) (by omega)
  have AZ := G (y % 100) (by omega) (by omega)
  have MO := refMonth_any (m - 1) (by omega) (by omega)
  rw [show m - 1 + 1 = m by omega] at MO
  have zN := monN_size m hm1 hm2
  have z1 : (⟨(d2 (t / 3600)).toArray⟩ : ByteArray).size ≤ 2 := Nat.le_refl 2
  have z2 : (⟨(d2 (t / 60 % 60)).toArray⟩ : ByteArray).size ≤ 2 := Nat.le_refl 2
  have z3 : (⟨(d2 (t % 60)).toArray⟩ : ByteArray).size ≤ 2 := Nat.le_refl 2
  have zD : (⟨(d2 d).toArray⟩ : ByteArray).size = 2 := rfl
  have zY : (⟨(d4 y).toArray⟩ : ByteArray).size ≤ 4 := Nat.le_refl 4
  have zZ : (⟨(d2 (y % 100)).toArray⟩ : ByteArray).size ≤ 2 := Nat.le_refl 2
  have es : (⟨(short2 d).toArray⟩ : ByteArray) = if d < 10 then ⟨#[32]⟩ ++ (⟨(d2 d).toArray⟩ : ByteArray).extract 1 2 else ⟨(d2 d).toArray⟩ := by
    unfold short2
    split
    · apply bytes_inj; rw [append_data, Lib.extract_data]; rfl
    · rfl

  generalize (mt / 86400 + 4) % 7 = wk at *
  generalize mt / 86400 % 7 = k at *
  have zW3 : (3 : Int) ≤ ((⟨(dayN k).toArray⟩ : ByteArray).size : Int) := by omega
  generalize (⟨(dayN k).toArray⟩ : ByteArray) = W at *
  generalize (⟨(d2 d).toArray⟩ : ByteArray) = D at *
  generalize (⟨(monN m).toArray⟩ : ByteArray) = N at *
  generalize (⟨(d4 y).toArray⟩ : ByteArray) = Y at *
  generalize (⟨(d2 (y % 100)).toArray⟩ : ByteArray) = Z at *
  generalize (⟨(d2 (t / 3600)).toArray⟩ : ByteArray) = X1 at *
  generalize (⟨(d2 (t / 60 % 60)).toArray⟩ : ByteArray) = X2 at *
  generalize (⟨(d2 (t % 60)).toArray⟩ : ByteArray) = X3 at *
  have zN' : N.size ≤ 3 := by omega
  have zD' : D.size ≤ 2 := by omega
  obtain ⟨zW1, zW2⟩ := zW
  replace WH := Lib.hid WH
  replace DY := Lib.hid DY
  replace A1 := Lib.hid A1
  replace A2 := Lib.hid A2
  replace A3 := Lib.hid A3
  replace AD := Lib.hid AD
  replace AZ := Lib.hid AZ
  replace G4 := Lib.hid G4
  replace MO := Lib.hid MO
  clear hM G e0 ew es zN

  go_enter Tryd.func37, Tryd.ntmps37
  go_upto_region 5 with (first
    | (go_at_call 35; (with_reducible refine (WH.out _).mono ?_); rintro e w2 ⟨rfl, hb2⟩; have B0 := Lib.hid hb2; clear hb2)
    | (go_at_call 64; (with_reducible refine (A1.out _).mono ?_); rintro e w3 ⟨rfl, hb2⟩; have B1 := Lib.hid (below_step B0.out hb2); clear hb2)
    | (go_at_call 64; (with_reducible refine (A2.out _).mono ?_); rintro e w4 ⟨rfl, hb2⟩; have B2 := Lib.hid (below_step B1.out hb2); clear hb2)
    | (go_at_call 64; (with_reducible refine (A3.out _).mono ?_); rintro e w5 ⟨rfl, hb2⟩; have B3 := Lib.hid (below_step B2.out hb2); clear hb2))
  clear ht
  refine wp_region_plan (fun w' => Below w.heap.size w w') [(0, true), (4, true), (8, true), (12, true), (16, true), (1, false), (2, true), (3, true), (5, false), (6, true), (7, true), (9, false), (10, true), (11, true), (13, false), (14, true), (15, true), (17, true), (18, true), (19, true)] (by kernel_rfl) (by kernel_rfl) rfl (by kernel_rfl) (below_drewN B3.out 1) ?_
  intro w1 hH
  iterate 5
    refine plan_take (v := ?_) rfl (by rfl) ?_ ?_
    rotate_left
    · intro w2 hSw
      clear hSw
      go_simp
      try with_reducible rfl
    try simp only [Act.put, List.setIfInBounds_toArray, List.set_cons_zero, List.set_cons_succ]
  refine plan_move rfl (by rfl) (fun K hK => ?_)
  go_simp
  (with_reducible refine (DY.out _).mono ?_)
  rintro e w6 ⟨rfl, hb2⟩
  refine hK.out _ _ (below_step hH.out hb2) ?_
  clear hH hK hb2 K
  intro hH
  try simp only [Act.put, List.setIfInBounds_toArray, List.set_cons_zero, List.set_cons_succ]
  iterate 1
    refine plan_take (v := ?_) rfl (by rfl) ?_ ?_
    rotate_left
    · intro w2 hSw
      clear hSw
      go_simp
      try with_reducible rfl
    try simp only [Act.put, List.setIfInBounds_toArray, List.set_cons_zero, List.set_cons_succ]
  iterate 1
    refine plan_add rfl (by rfl) _ _ _ _ rfl _ _ (by rfl) (by rfl) (by simp [mk_size]; omega) ?_
    try simp only [Act.put, List.setIfInBounds_toArray, List.set_cons_zero, List.set_cons_succ]
  refine plan_move rfl (by rfl) (fun K hK => ?_)
  go_simp
  (with_reducible refine (AD.out _).mono ?_)
  rintro e w6 ⟨rfl, hb2⟩
  refine hK.out _ _ (below_step hH.out hb2) ?_
  clear hH hK hb2 K
  intro hH
  try simp only [Act.put, List.setIfInBounds_toArray, List.set_cons_zero, List.set_cons_succ]
  iterate 2
    refine plan_add rfl (by rfl) _ _ _ _ rfl _ _ (by rfl) (by rfl) (by simp [mk_size]; omega) ?_
    try simp only [Act.put, List.setIfInBounds_toArray, List.set_cons_zero, List.set_cons_succ]
  refine plan_move rfl (by rfl) (fun K hK => ?_)
  go_simp
  (with_reducible refine (MO.out _).mono ?_)
  rintro e w6 ⟨rfl, hb2⟩
  refine hK.out _ _ (below_step hH.out hb2) ?_
  clear hH hK hb2 K
  intro hH
  try simp only [Act.put, List.setIfInBounds_toArray, List.set_cons_zero, List.set_cons_succ]
  iterate 2
    refine plan_add rfl (by rfl) _ _ _ _ rfl _ _ (by rfl) (by rfl) (by simp [mk_size]; omega) ?_
    try simp only [Act.put, List.setIfInBounds_toArray, List.set_cons_zero, List.set_cons_succ]
  refine plan_move rfl (by rfl) (fun K hK => ?_)
  go_simp
  (with_reducible refine (G4.out _).mono ?_)
  rintro e w6 ⟨rfl, hb2⟩
  refine hK.out _ _ (below_step hH.out hb2) ?_
  clear hH hK hb2 K
  intro hH
  try simp only [Act.put, List.setIfInBounds_toArray, List.set_cons_zero, List.set_cons_succ]
  iterate 4
    refine plan_add rfl (by rfl) _ _ _ _ rfl _ _ (by rfl) (by rfl) (by simp [mk_size]; omega) ?_
    try simp only [Act.put, List.setIfInBounds_toArray, List.set_cons_zero, List.set_cons_succ]
  iterate 1
    refine plan_take (v := ?_) rfl (by rfl) ?_ ?_
    rotate_left
    · intro w2 hSw
      clear hSw
      go_simp
      try with_reducible rfl
    try simp only [Act.put, List.setIfInBounds_toArray, List.set_cons_zero, List.set_cons_succ]
  refine plan_done ?_
  have hbel := hH.out
  clear hH
  go_wp2
  go_ret
  exact ⟨rfl, hbel⟩
set_option maxHeartbeats 4000000 in
theorem refForm1 {mt y m d : Int} (hM : Moment mt y m d) (w : World) :
    Calls Tryd.prog 37 #[.int .i64 mt, .int .i64 1] w fun e w' => e = .returned (.string ⟨(formOf 1 mt y m d).toArray⟩) ∧ Below w.heap.size w w' := by
  have hyy := hM.year
  have h0 := hM.h0
  have h1 := hM.h1
  have hml := mlen_bd y m
  obtain ⟨hm1, hm2, hd1, hd2, _⟩ := hM.civ
  have WH := refWhen_any hM
  have e0 : formOf 1 mt y m d = form1 y m d (mt / 86400 % 7) (mt % 86400) := rfl
  rw [e0, (form_cats y m d (mt / 86400 % 7) (mt % 86400)).2.1]
  have DY := refDay_any ((mt / 86400 + 4) % 7) (by omega) (by omega)
  have ew : ((mt / 86400 + 4) % 7 + 3) % 7 = mt / 86400 % 7 := by omega
  rw [ew] at DY
  have zW := dayN_size (mt / 86400 % 7) (by omega) (by omega)
  obtain ⟨t, ht⟩ : ∃ t, mt % 86400 = t := ⟨_, rfl⟩
  have t0 : 0 ≤ t := by omega
  have t1 : t < 86400 := by omega
  rw [ht]
  have G := dig2_any
  have G4 := dig4_any y (by omega) (by omega)
  have A1 := G (t / 3600) (by omega) (by omega)
  have A2 := G (t / 60 % 60) (by omega) (by omega)
  have A3 := G (t % 60) (by omega) (by omega)
  have AD := G d (by omega) (by omega)
  have AZ := G (y % 100) (by omega) (by omega)
  have MO := refMonth_any (m - 1) (by omega) (by omega)
  rw [show m - 1 + 1 = m by omega] at MO
  have zN := monN_size m hm1 hm2
  have z1 : (⟨(d2 (t / 3600)).toArray⟩ : ByteArray).size ≤ 2 := Nat.le_refl 2
  have z2 : (⟨(d2 (t / 60 % 60)).toArray⟩ : ByteArray).size ≤ 2 := Nat.le_refl 2
  have z3 : (⟨(d2 (t % 60)).toArray⟩ : ByteArray).size ≤ 2 := Nat.le_refl 2
  have zD : (⟨(d2 d).toArray⟩ : ByteArray).size = 2 := rfl
  have zY : (⟨(d4 y).toArray⟩ : ByteArray).size ≤ 4 := Nat.le_refl 4
  have zZ : (⟨(d2 (y % 100)).toArray⟩ : ByteArray).size ≤ 2 := Nat.le_refl 2
  have es : (⟨(short2 d).toArray⟩ : ByteArray) = if d < 10 then ⟨#[32]⟩ ++ (⟨(d2 d).toArray⟩ : ByteArray).extract 1 2 else ⟨(d2 d).toArray⟩ := by
    unfold short2
    split
    · apply bytes_inj; rw [append_data, Lib.extract_data]; rfl
    · rfl

  generalize (mt / 86400 + 4) % 7 = wk at *
  generalize mt / 86400 % 7 = k at *
  have zW3 : (3 : Int) ≤ ((⟨(dayN k).toArray⟩ : ByteArray).size : Int) := by omega
  generalize (⟨(dayN k).toArray⟩ : ByteArray) = W at *
  generalize (⟨(d2 d).toArray⟩ : ByteArray) = D at *
  generalize (⟨(monN m).toArray⟩ : ByteArray) = N at *
  generalize (⟨(d4 y).toArray⟩ : ByteArray) = Y at *
  generalize (⟨(d2 (y % 100)).toArray⟩ : ByteArray) = Z at *
  generalize (⟨(d2 (t / 3600)).toArray⟩ : ByteArray) = X1 at *
  generalize (⟨(d2 (t / 60 % 60)).toArray⟩ : ByteArray) = X2 at *
  generalize (⟨(d2 (t % 60)).toArray⟩ : ByteArray) = X3 at *
  have zN' : N.size ≤ 3 := by omega
  have zD' : D.size ≤ 2 := by omega
  obtain ⟨zW1, zW2⟩ := zW
  replace WH := Lib.hid WH
  replace DY := Lib.hid DY
  replace A1 := Lib.hid A1
  replace A2 := Lib.hid A2
  replace A3 := Lib.hid A3
  replace AD := Lib.hid AD
  replace AZ := Lib.hid AZ
  replace G4 := Lib.hid G4
  replace MO := Lib.hid MO
  clear hM G e0 ew es zN

  go_enter Tryd.func37, Tryd.ntmps37
  go_wp2_with (first
    | (go_at_call 35; (with_reducible refine (WH.out _).mono ?_); rintro e w2 ⟨rfl, hb2⟩; have B0 := Lib.hid hb2; clear hb2)
    | (go_at_call 64; (with_reducible refine (A1.out _).mono ?_); rintro e w3 ⟨rfl, hb2⟩; have B1 := Lib.hid (below_step B0.out hb2); clear hb2)
    | (go_at_call 64; (with_reducible refine (A2.out _).mono ?_); rintro e w4 ⟨rfl, hb2⟩; have B2 := Lib.hid (below_step B1.out hb2); clear hb2)
    | (go_at_call 64; (with_reducible refine (A3.out _).mono ?_); rintro e w5 ⟨rfl, hb2⟩; have B3 := Lib.hid (below_step B2.out hb2); clear hb2)
    | (go_at_call 61; (with_reducible refine (DY.out _).mono ?_); rintro e w6 ⟨rfl, hb2⟩; have B4 := Lib.hid (below_step B3.out hb2); clear hb2)
    | (go_at_call 64; (with_reducible refine (AD.out _).mono ?_); rintro e w7 ⟨rfl, hb2⟩; have B5 := Lib.hid (below_step B4.out hb2); clear hb2)
    | (go_at_call 65; (with_reducible refine (MO.out _).mono ?_); rintro e w8 ⟨rfl, hb2⟩; have B6 := Lib.hid (below_step B5.out hb2); clear hb2)
    | (go_at_call 64; (with_reducible refine (AZ.out _).mono ?_); rintro e w9 ⟨rfl, hb2⟩; have B7 := Lib.hid (below_step B6.out hb2); clear hb2))
  go_ret
  exact ⟨rfl, B7.out⟩
set_option maxHeartbeats 4000000 in
theorem refForm2 {mt y m d : Int} (hM : Moment mt y m d) (w : World) :
    Calls Tryd.prog 37 #[.int .i64 mt, .int .i64 2] w fun e w' => e = .returned (.string ⟨(formOf 2 mt y m d).toArray⟩) ∧ Below w.heap.size w w' := by
  have hyy := hM.year
  have h0 := hM.h0
  have h1 := hM.h1
  have hml := mlen_bd y m
  obtain ⟨hm1, hm2, hd1, hd2, _⟩ := hM.civ
  have WH := refWhen_any hM
  have e0 : formOf 2 mt y m d = form2 y m d (mt / 86400 % 7) (mt % 86400) := rfl
  rw [e0, (form_cats y m d (mt / 86400 % 7) (mt % 86400)).2.2]
  have DY := refDay_any ((mt / 86400 + 4) % 7) (by omega) (by omega)
  have ew : ((mt / 86400 + 4) % 7 + 3) % 7 = mt / 86400 % 7 := by omega
  rw [ew] at DY
  have zW := dayN_size (mt / 86400 % 7) (by omega) (by omega)
  obtain ⟨t, ht⟩ : ∃ t, mt % 86400 = t := ⟨_, rfl⟩
  have t0 : 0 ≤ t := by omega
  have t1 : t < 86400 := by omega
  rw [ht]
  have G := dig2_any
  have G4 := dig4_any y (by omega) (by omega)
  have A1 := G (t / 3600) (by omega) (by omega)
  have A2 := G (t / 60 % 60) (by omega) (by omega)
  have A3 := G (t % 60) (by omega) (by omega)
  have AD := G d (by omega) (by omega)
  have AZ := G (y % 100) (by omega) (by omega)
  have MO := refMonth_any (m - 1) (by omega) (by omega)
  rw [show m - 1 + 1 = m by omega] at MO
  have zN := monN_size m hm1 hm2
  have z1 : (⟨(d2 (t / 3600)).toArray⟩ : ByteArray).size ≤ 2 := Nat.le_refl 2
  have z2 : (⟨(d2 (t / 60 % 60)).toArray⟩ : ByteArray).size ≤ 2 := Nat.le_refl 2
  have z3 : (⟨(d2 (t % 60)).toArray⟩ : ByteArray).size ≤ 2 := Nat.le_refl 2
  have zD : (⟨(d2 d).toArray⟩ : ByteArray).size = 2 := rfl
  have zY : (⟨(d4 y).toArray⟩ : ByteArray).size ≤ 4 := Nat.le_refl 4
  have zZ : (⟨(d2 (y % 100)).toArray⟩ : ByteArray).size ≤ 2 := Nat.le_refl 2
  have es : (⟨(short2 d).toArray⟩ : ByteArray) = if d < 10 then ⟨#[32]⟩ ++ (⟨(d2 d).toArray⟩ : ByteArray).extract 1 2 else ⟨(d2 d).toArray⟩ := by
    unfold short2
    split
    · apply bytes_inj; rw [append_data, Lib.extract_data]; rfl
    · rfl
  rw [es]
  obtain ⟨E, hE⟩ : ∃ E, (if d < 10 then (⟨#[32]⟩ : ByteArray) ++ (⟨(d2 d).toArray⟩ : ByteArray).extract 1 2 else ⟨(d2 d).toArray⟩) = E := ⟨_, rfl⟩
  rw [hE]
  have HE := Lib.hid hE; clear hE
  generalize (mt / 86400 + 4) % 7 = wk at *
  generalize mt / 86400 % 7 = k at *
  have zW3 : (3 : Int) ≤ ((⟨(dayN k).toArray⟩ : ByteArray).size : Int) := by omega
  generalize (⟨(dayN k).toArray⟩ : ByteArray) = W at *
  generalize (⟨(d2 d).toArray⟩ : ByteArray) = D at *
  generalize (⟨(monN m).toArray⟩ : ByteArray) = N at *
  generalize (⟨(d4 y).toArray⟩ : ByteArray) = Y at *
  generalize (⟨(d2 (y % 100)).toArray⟩ : ByteArray) = Z at *
  generalize (⟨(d2 (t / 3600)).toArray⟩ : ByteArray) = X1 at *
  generalize (⟨(d2 (t / 60 % 60)).toArray⟩ : ByteArray) = X2 at *
  generalize (⟨(d2 (t % 60)).toArray⟩ : ByteArray) = X3 at *
  have zN' : N.size ≤ 3 := by omega
  have zD' : D.size ≤ 2 := by omega
  obtain ⟨zW1, zW2⟩ := zW
  replace WH := Lib.hid WH
  replace DY := Lib.hid DY
  replace A1 := Lib.hid A1
  replace A2 := Lib.hid A2
  replace A3 := Lib.hid A3
  replace AD := Lib.hid AD
  replace AZ := Lib.hid AZ
  replace G4 := Lib.hid G4
  replace MO := Lib.hid MO
  clear hM G e0 ew es zN

  by_cases hd : d < 10
  · have hse : E = ⟨#[32]⟩ ++ D.extract 1 2 := by rw [← HE.out, if_pos hd]
    rw [hse]
    clear hse HE
    go_enter Tryd.func37, Tryd.ntmps37
    go_upto_region 11 with (first
      | (go_at_call 35; (with_reducible refine (WH.out _).mono ?_); rintro e w2 ⟨rfl, hb2⟩; have B0 := Lib.hid hb2; clear hb2)
      | (go_at_call 64; (with_reducible refine (A1.out _).mono ?_); rintro e w3 ⟨rfl, hb2⟩; have B1 := Lib.hid (below_step B0.out hb2); clear hb2)
      | (go_at_call 64; (with_reducible refine (A2.out _).mono ?_); rintro e w4 ⟨rfl, hb2⟩; have B2 := Lib.hid (below_step B1.out hb2); clear hb2)
      | (go_at_call 64; (with_reducible refine (A3.out _).mono ?_); rintro e w5 ⟨rfl, hb2⟩; have B3 := Lib.hid (below_step B2.out hb2); clear hb2)
      | (go_at_call 64; (with_reducible refine (AD.out _).mono ?_); rintro e w6 ⟨rfl, hb2⟩; have B4 := Lib.hid (below_step B3.out hb2); clear hb2))
    clear ht
    refine wp_region_plan (fun w' => Below w.heap.size w w') [(0, true), (4, true), (8, true), (11, true), (14, true), (1, false), (2, true), (3, true), (5, false), (6, true), (7, true), (9, true), (10, true), (12, true), (13, true), (15, false), (16, true), (17, true)] (by kernel_rfl) (by kernel_rfl) rfl (by kernel_rfl) (below_drewN B4.out 1) ?_
    intro w1 hH
    iterate 5
      refine plan_take (v := ?_) rfl (by rfl) ?_ ?_
      rotate_left
      · intro w2 hSw
        clear hSw
        go_simp
        try with_reducible rfl
      try simp only [Act.put, List.setIfInBounds_toArray, List.set_cons_zero, List.set_cons_succ]
    refine plan_move rfl (by rfl) (fun K hK => ?_)
    go_simp
    (with_reducible refine (DY.out _).mono ?_)
    rintro e w6 ⟨rfl, hb2⟩
    refine hK.out _ _ (below_step hH.out hb2) ?_
    clear hH hK hb2 K
    intro hH
    try simp only [Act.put, List.setIfInBounds_toArray, List.set_cons_zero, List.set_cons_succ]
    iterate 1
      refine plan_take (v := ?_) rfl (by rfl) ?_ ?_
      rotate_left
      · intro w2 hSw
        clear hSw
        go_simp
        try with_reducible rfl
      try simp only [Act.put, List.setIfInBounds_toArray, List.set_cons_zero, List.set_cons_succ]
    iterate 1
      refine plan_add rfl (by rfl) _ _ _ _ rfl _ _ (by rfl) (by rfl) (by simp [mk_size]; omega) ?_
      try simp only [Act.put, List.setIfInBounds_toArray, List.set_cons_zero, List.set_cons_succ]
    refine plan_move rfl (by rfl) (fun K hK => ?_)
    go_simp
    (with_reducible refine (MO.out _).mono ?_)
    rintro e w6 ⟨rfl, hb2⟩
    refine hK.out _ _ (below_step hH.out hb2) ?_
    clear hH hK hb2 K
    intro hH
    try simp only [Act.put, List.setIfInBounds_toArray, List.set_cons_zero, List.set_cons_succ]
    iterate 6
      refine plan_add rfl (by rfl) _ _ _ _ rfl _ _ (by rfl) (by rfl) (by simp [mk_size]; omega) ?_
      try simp only [Act.put, List.setIfInBounds_toArray, List.set_cons_zero, List.set_cons_succ]
    refine plan_move rfl (by rfl) (fun K hK => ?_)
    go_simp
    (with_reducible refine (G4.out _).mono ?_)
    rintro e w6 ⟨rfl, hb2⟩
    refine hK.out _ _ (below_step hH.out hb2) ?_
    clear hH hK hb2 K
    intro hH
    try simp only [Act.put, List.setIfInBounds_toArray, List.set_cons_zero, List.set_cons_succ]
    iterate 1
      refine plan_add rfl (by rfl) _ _ _ _ rfl _ _ (by rfl) (by rfl) (by simp [mk_size]; omega) ?_
      try simp only [Act.put, List.setIfInBounds_toArray, List.set_cons_zero, List.set_cons_succ]
    iterate 1
      refine plan_take (v := ?_) rfl (by rfl) ?_ ?_
      rotate_left
      · intro w2 hSw
        clear hSw
        go_simp
        try with_reducible rfl
      try simp only [Act.put, List.setIfInBounds_toArray, List.set_cons_zero, List.set_cons_succ]
    refine plan_done ?_
    have hbel := hH.out
    clear hH
    go_wp2
    go_ret
    exact ⟨rfl, hbel⟩
  · have hse : E = D := by rw [← HE.out, if_neg hd]
    rw [hse]
    clear hse HE
    go_enter Tryd.func37, Tryd.ntmps37
    go_upto_region 11 with (first
      | (go_at_call 35; (with_reducible refine (WH.out _).mono ?_); rintro e w2 ⟨rfl, hb2⟩; have B0 := Lib.hid hb2; clear hb2)
      | (go_at_call 64; (with_reducible refine (A1.out _).mono ?_); rintro e w3 ⟨rfl, hb2⟩; have B1 := Lib.hid (below_step B0.out hb2); clear hb2)
      | (go_at_call 64; (with_reducible refine (A2.out _).mono ?_); rintro e w4 ⟨rfl, hb2⟩; have B2 := Lib.hid (below_step B1.out hb2); clear hb2)
      | (go_at_call 64; (with_reducible refine (A3.out _).mono ?_); rintro e w5 ⟨rfl, hb2⟩; have B3 := Lib.hid (below_step B2.out hb2); clear hb2)
      | (go_at_call 64; (with_reducible refine (AD.out _).mono ?_); rintro e w6 ⟨rfl, hb2⟩; have B4 := Lib.hid (below_step B3.out hb2); clear hb2))
    clear ht
    refine wp_region_plan (fun w' => Below w.heap.size w w') [(0, true), (4, true), (8, true), (11, true), (14, true), (1, false), (2, true), (3, true), (5, false), (6, true), (7, true), (9, true), (10, true), (12, true), (13, true), (15, false), (16, true), (17, true)] (by kernel_rfl) (by kernel_rfl) rfl (by kernel_rfl) (below_drewN B4.out 1) ?_
    intro w1 hH
    iterate 5
      refine plan_take (v := ?_) rfl (by rfl) ?_ ?_
      rotate_left
      · intro w2 hSw
        clear hSw
        go_simp
        try with_reducible rfl
      try simp only [Act.put, List.setIfInBounds_toArray, List.set_cons_zero, List.set_cons_succ]
    refine plan_move rfl (by rfl) (fun K hK => ?_)
    go_simp
    (with_reducible refine (DY.out _).mono ?_)
    rintro e w6 ⟨rfl, hb2⟩
    refine hK.out _ _ (below_step hH.out hb2) ?_
    clear hH hK hb2 K
    intro hH
    try simp only [Act.put, List.setIfInBounds_toArray, List.set_cons_zero, List.set_cons_succ]
    iterate 1
      refine plan_take (v := ?_) rfl (by rfl) ?_ ?_
      rotate_left
      · intro w2 hSw
        clear hSw
        go_simp
        try with_reducible rfl
      try simp only [Act.put, List.setIfInBounds_toArray, List.set_cons_zero, List.set_cons_succ]
    iterate 1
      refine plan_add rfl (by rfl) _ _ _ _ rfl _ _ (by rfl) (by rfl) (by simp [mk_size]; omega) ?_
      try simp only [Act.put, List.setIfInBounds_toArray, List.set_cons_zero, List.set_cons_succ]
    refine plan_move rfl (by rfl) (fun K hK => ?_)
    go_simp
    (with_reducible refine (MO.out _).mono ?_)
    rintro e w6 ⟨rfl, hb2⟩
    refine hK.out _ _ (below_step hH.out hb2) ?_
    clear hH hK hb2 K
    intro hH
    try simp only [Act.put, List.setIfInBounds_toArray, List.set_cons_zero, List.set_cons_succ]
    iterate 6
      refine plan_add rfl (by rfl) _ _ _ _ rfl _ _ (by rfl) (by rfl) (by simp [mk_size]; omega) ?_
      try simp only [Act.put, List.setIfInBounds_toArray, List.set_cons_zero, List.set_cons_succ]
    refine plan_move rfl (by rfl) (fun K hK => ?_)
    go_simp
    (with_reducible refine (G4.out _).mono ?_)
    rintro e w6 ⟨rfl, hb2⟩
    refine hK.out _ _ (below_step hH.out hb2) ?_
    clear hH hK hb2 K
    intro hH
    try simp only [Act.put, List.setIfInBounds_toArray, List.set_cons_zero, List.set_cons_succ]
    iterate 1
      refine plan_add rfl (by rfl) _ _ _ _ rfl _ _ (by rfl) (by rfl) (by simp [mk_size]; omega) ?_
      try simp only [Act.put, List.setIfInBounds_toArray, List.set_cons_zero, List.set_cons_succ]
    iterate 1
      refine plan_take (v := ?_) rfl (by rfl) ?_ ?_
      rotate_left
      · intro w2 hSw
        clear hSw
        go_simp
        try with_reducible rfl
      try simp only [Act.put, List.setIfInBounds_toArray, List.set_cons_zero, List.set_cons_succ]
    refine plan_done ?_
    have hbel := hH.out
    clear hH
    go_wp2
    go_ret
    exact ⟨rfl, hbel⟩
end Go.Proofs.YtpmidmdodjgeeaaDoor
