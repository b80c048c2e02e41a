/- Walks of layer 2: a date's three forms; Print and Forms. Condition: the date is within the calendar's bounds. -/
import Derived.Test.YtpmidmdodjgeeaaDoorDat4
namespace Go.Proofs.YtpmidmdodjgeeaaDoor
open Go.RowKit IH
set_option maxRecDepth 100000

def cat0 (W D N Y C : ByteArray) : ByteArray := W.extract 0 3 ++ ⟨#[44, 32]⟩ ++ D ++ ⟨#[32]⟩ ++ N ++ ⟨#[32]⟩ ++ Y ++ ⟨#[32]⟩ ++ C ++ ⟨#[32, 71, 77, 84]⟩
def cat1 (W D N Y C : ByteArray) : ByteArray := W ++ ⟨#[44, 32]⟩ ++ D ++ ⟨#[45]⟩ ++ N ++ ⟨#[45]⟩ ++ Y ++ ⟨#[32]⟩ ++ C ++ ⟨#[32, 71, 77, 84]⟩
def cat2 (W D N Y C : ByteArray) : ByteArray := W.extract 0 3 ++ ⟨#[32]⟩ ++ N ++ ⟨#[32]⟩ ++ D ++ ⟨#[32]⟩ ++ C ++ ⟨#[32]⟩ ++ Y

def FormsS (w w1 : World) (cs : List Value) : Prop := RowAt w1 w.heap.size 83 cs ∧ (∃ ol : List Value, ol.length = 3 ∧ RowAt w1 (w.heap.size + 1) 64 ol) ∧ Below w.heap.size w w1
theorem FormsS.keep {w w1 w2 : World} {cs : List Value} (h : FormsS w w1 cs) (hb : Below w1.heap.size w1 w2) : FormsS w w2 cs := by
  obtain ⟨h1, ⟨ol, h2, h3⟩, h4⟩ := h
  exact ⟨h1.below hb h1.lt, ⟨ol, h2, h3.below hb h3.lt⟩, below_step h4 hb⟩

theorem FormsS.drewN {w w1 : World} {cs : List Value} (h : FormsS w w1 cs) (n : Nat) : FormsS w (w1.drewN n) cs := ⟨h.1.drewN n, by obtain ⟨ol, h2, h3⟩ := h.2.1; exact ⟨ol, h2, h3.drewN n⟩, below_drewN h.2.2 n⟩
theorem monN_size (m : Int) (h1 : 1 ≤ m) (h2 : m ≤ 12) : (⟨(monN m).toArray⟩ : ByteArray).size = 3 := by
  have hq : m = 1 ∨ m = 2 ∨ m = 3 ∨ m = 4 ∨ m = 5 ∨ m = 6 ∨ m = 7 ∨ m = 8 ∨ m = 9 ∨ m = 10 ∨ m = 11 ∨ m = 12 := by omega
  rcases hq with rfl | rfl | rfl | rfl | rfl | rfl | rfl | rfl | rfl | rfl | rfl | rfl <;> rfl
theorem dayN_size (i : Int) (h1 : 0 ≤ i) (h2 : i < 7) : 6 ≤ (⟨(dayN i).toArray⟩ : ByteArray).size ∧ (⟨(dayN i).toArray⟩ : ByteArray).size ≤ 9 := by
  have hq : i = 0 ∨ i = 1 ∨ i = 2 ∨ i = 3 ∨ i = 4 ∨ i = 5 ∨ i = 6 := by omega
  rcases hq with rfl | rfl | rfl | rfl | rfl | rfl | rfl <;> decide

set_option maxHeartbeats 4000000 in
theorem forms_any (y m d t k : Int) (y0 : 0 ≤ y) (y1 : y ≤ 9999) (m0 : 1 ≤ m) (m1 : m ≤ 12) (d0 : 1 ≤ d) (d1 : d ≤ 31) (t0 : 0 ≤ t) (t1 : t < 86400) (k0 : 0 ≤ k) (k1 : k < 7) (w : World) :
    Calls Tryd.prog 57 #[.agg (civV y m d (t / 3600) (t / 60 % 60) (t % 60) k).toArray] w fun e w' => e = .returned (.agg #[.string ⟨(form0 y m d k t).toArray⟩, .string ⟨(form1 y m d k t).toArray⟩, .string ⟨(form2 y m d k t).toArray⟩]) ∧ Below w.heap.size w w' := by
  have hC : d2 (t / 3600) ++ [58] ++ d2 (t / 60 % 60) ++ [58] ++ d2 (t % 60) = clockL t := rfl
  have CK := clock_any y m d (t / 3600) (t / 60 % 60) (t % 60) k (by omega) (by omega) (by omega) (by omega) (by omega) (by omega)
  rw [hC] at CK
  have NM := name_any y m d (t / 3600) (t / 60 % 60) (t % 60) k m0 m1
  have WD := weekday_any k k0 k1
  have TD := two2_any d (by omega) (by omega)
  have TY := two4_any y (by omega) (by omega)
  have TZ := two2_any (y % 100) (by omega) (by omega)
  have e0 : (⟨(form0 y m d k t).toArray⟩ : ByteArray) = cat0 ⟨(dayN k).toArray⟩ ⟨(d2 d).toArray⟩ ⟨(monN m).toArray⟩ ⟨(d4 y).toArray⟩ ⟨(clockL t).toArray⟩ := by
    apply bytes_inj; simp [cat0, form0, gmt, -List.append_assoc]
  have e1 : (⟨(form1 y m d k t).toArray⟩ : ByteArray) = cat1 ⟨(dayN k).toArray⟩ ⟨(d2 d).toArray⟩ ⟨(monN m).toArray⟩ ⟨(d2 (y % 100)).toArray⟩ ⟨(clockL t).toArray⟩ := by
    apply bytes_inj; simp [cat1, form1, gmt]
  have e2 : (⟨(form2 y m d k t).toArray⟩ : ByteArray) = cat2 ⟨(dayN k).toArray⟩ ⟨(short2 d).toArray⟩ ⟨(monN m).toArray⟩ ⟨(d4 y).toArray⟩ ⟨(clockL t).toArray⟩ := by
    apply bytes_inj; simp [cat2, form2]
  have es : (⟨(short2 d).toArray⟩ : ByteArray) = if d < 10 then ⟨#[32]⟩ ++ (⟨(d2 d).toArray⟩ : ByteArray).extract 1 2 else ⟨(d2 d).toArray⟩ := by
    unfold short2
    split
    · apply bytes_inj; rw [append_data, Lib.extract_data]; rfl
    · rfl
  rw [e0, e1, e2, es]
  have zW := dayN_size k k0 k1
  have zD := d2_size d
  have zW3 : (3 : Int) ≤ ((⟨(dayN k).toArray⟩ : ByteArray).size : Int) := by omega
  have zN := monN_size m m0 m1
  have zY : (⟨(d4 y).toArray⟩ : ByteArray).size = 4 := rfl
  have zZ := d2_size (y % 100)
  have zC : (⟨(clockL t).toArray⟩ : ByteArray).size = 8 := rfl
  clear hC e0 e1 e2 es
  generalize (⟨(dayN k).toArray⟩ : ByteArray) = W at *
  generalize (⟨(d2 d).toArray⟩ : ByteArray) = D at *
  generalize (⟨(monN m).toArray⟩ : ByteArray) = N at *
  generalize (⟨(d4 y).toArray⟩ : ByteArray) = Y at *
  generalize (⟨(d2 (y % 100)).toArray⟩ : ByteArray) = Z at *
  generalize (⟨(clockL t).toArray⟩ : ByteArray) = C at *
  obtain ⟨E, hE⟩ : ∃ E, (if d < 10 then (⟨#[32]⟩ : ByteArray) ++ D.extract 1 2 else D) = E := ⟨_, rfl⟩
  rw [hE]
  have HE := Lib.hid hE; clear hE
  unfold civV at CK NM
  have CK := Lib.hid CK
  have NM := Lib.hid NM
  have WD := Lib.hid WD
  have TD := Lib.hid TD
  have TY := Lib.hid TY
  have TZ := Lib.hid TZ
  have hq0 : FormsS w ((w.alloc (.cells (civV y m d (t / 3600) (t / 60 % 60) (t % 60) k).toArray 83)).alloc (.cells #[.string ⟨#[]⟩, .string ⟨#[]⟩, .string ⟨#[]⟩] 64)) (civV y m d (t / 3600) (t / 60 % 60) (t % 60) k) :=
    ⟨(RowAt.new w _ _).alloc _, ⟨[.string ⟨#[]⟩, .string ⟨#[]⟩, .string ⟨#[]⟩], rfl, row_new_at _ _ _ _ (by simp)⟩, ((Below.refl _ _).alloc (Nat.le_refl _) _).alloc (by simp) _⟩
  have HS0 := Lib.hid hq0; clear hq0
  unfold civV
  go_enter Tryd.func57, Tryd.ntmps57
  go_upto_region 1 with fail
  have hS0 := HS0.out
  unfold civV at hS0
  generalize ((w.alloc (.cells #[.int .i64 y, .int .i64 m, .int .i64 d, .int .i64 (t / 3600), .int .i64 (t / 60 % 60), .int .i64 (t % 60), .int .i64 k] 83)).alloc (.cells #[.string ⟨#[]⟩, .string ⟨#[]⟩, .string ⟨#[]⟩] 64)) = w0 at *
  clear HS0
  have HS0 := Lib.hid hS0; clear hS0
  obtain ⟨a0, a1, a2, a3, a4, a5, a6⟩ := civ_cells HS0.out.1
  go_wp2_with (first
    | (go_at_call 85; (with_reducible refine (WD.out _).mono ?_); rintro e w2 ⟨rfl, hb2⟩; have HS1 := Lib.hid (HS0.out.keep hb2); obtain ⟨b0, b1, b2, b3, b4, b5, b6⟩ := civ_cells HS1.out.1; clear hb2)
    | (go_at_call 86; (with_reducible refine (TD.out _).mono ?_); rintro e w3 ⟨rfl, hb3⟩; have HS2 := Lib.hid (HS1.out.keep hb3); obtain ⟨c0, c1, c2, c3, c4, c5, c6⟩ := civ_cells HS2.out.1; clear hb3))
  all_goals
    have hS0 := HS2.out
    have hd : d < 10 ∨ ¬ d < 10 := by omega
    clear a0 a1 a2 a3 a4 a5 a6 b0 b1 b2 b3 b4 b5 b6 c0 c1 c2 c3 c4 c5 c6 HS0 HS1 HS2
    refine wp_region_plan (fun w' => FormsS w w' (civV y m d (t / 3600) (t / 60 % 60) (t % 60) k)) [(0, true), (1, true), (2, true), (3, true), (4, true), (5, true), (6, true), (10, true), (11, true), (15, true), (19, true), (20, true), (21, true), (22, true), (23, true), (24, true), (28, true), (29, true), (30, true), (34, true), (38, true), (39, true), (40, true), (41, true), (45, true), (48, true), (52, true), (53, true), (7, false), (8, true), (9, true), (12, false), (13, true), (14, true), (16, false), (17, true), (18, true), (25, false), (26, true), (27, true), (31, false), (32, true), (33, true), (35, false), (36, true), (37, true), (42, false), (43, true), (44, true), (46, true), (47, true), (49, false), (50, true), (51, true), (54, false), (55, true), (56, true), (57, false)] (by kernel_rfl) (by kernel_rfl) rfl (by kernel_rfl) (hS0.drewN 1) ?_
    clear hS0
    have q1 : Int.tmod y 100 = y % 100 := Int.tmod_eq_emod_of_nonneg y0
    intro w1 hH
    iterate 2
      refine plan_take (v := ?_) rfl (by rfl) ?_ ?_
      rotate_left
      · intro w2 hSw
        have hc := civ_cells hSw.1
        clear hSw
        go_simp
        try with_reducible rfl
      try simp only [Act.put, List.setIfInBounds_toArray, List.set_cons_zero, List.set_cons_succ]
    iterate 1
      refine plan_add rfl (by rfl) _ _ _ _ rfl _ _ (by rfl) (by rfl) (by simp [mk_size]; omega) ?_
      try simp only [Act.put, List.setIfInBounds_toArray, List.set_cons_zero, List.set_cons_succ]
    iterate 1
      refine plan_take (v := ?_) rfl (by rfl) ?_ ?_
      rotate_left
      · intro w2 hSw
        have hc := civ_cells hSw.1
        clear hSw
        go_simp
        try with_reducible rfl
      try simp only [Act.put, List.setIfInBounds_toArray, List.set_cons_zero, List.set_cons_succ]
    iterate 2
      refine plan_add rfl (by rfl) _ _ _ _ rfl _ _ (by rfl) (by rfl) (by simp [mk_size]; omega) ?_
      try simp only [Act.put, List.setIfInBounds_toArray, List.set_cons_zero, List.set_cons_succ]
    iterate 5
      refine plan_take (v := ?_) rfl (by rfl) ?_ ?_
      rotate_left
      · intro w2 hSw
        have hc := civ_cells hSw.1
        clear hSw
        go_simp
        try with_reducible rfl
      try simp only [Act.put, List.setIfInBounds_toArray, List.set_cons_zero, List.set_cons_succ]
    iterate 1
      refine plan_add rfl (by rfl) _ _ _ _ rfl _ _ (by rfl) (by rfl) (by simp [mk_size]; omega) ?_
      try simp only [Act.put, List.setIfInBounds_toArray, List.set_cons_zero, List.set_cons_succ]
    iterate 1
      refine plan_take (v := ?_) rfl (by rfl) ?_ ?_
      rotate_left
      · intro w2 hSw
        have hc := civ_cells hSw.1
        clear hSw
        go_simp
        try with_reducible rfl
      try simp only [Act.put, List.setIfInBounds_toArray, List.set_cons_zero, List.set_cons_succ]
    iterate 2
      refine plan_add rfl (by rfl) _ _ _ _ rfl _ _ (by rfl) (by rfl) (by simp [mk_size]; omega) ?_
      try simp only [Act.put, List.setIfInBounds_toArray, List.set_cons_zero, List.set_cons_succ]
    iterate 7
      refine plan_take (v := ?_) rfl (by rfl) ?_ ?_
      rotate_left
      · intro w2 hSw
        have hc := civ_cells hSw.1
        clear hSw
        go_simp
        try with_reducible rfl
      try simp only [Act.put, List.setIfInBounds_toArray, List.set_cons_zero, List.set_cons_succ]
    iterate 1
      refine plan_add rfl (by rfl) _ _ _ _ rfl _ _ (by rfl) (by rfl) (by simp [mk_size]; omega) ?_
      try simp only [Act.put, List.setIfInBounds_toArray, List.set_cons_zero, List.set_cons_succ]
    iterate 5
      refine plan_take (v := ?_) rfl (by rfl) ?_ ?_
      rotate_left
      · intro w2 hSw
        have hc := civ_cells hSw.1
        clear hSw
        go_simp
        try with_reducible rfl
      try simp only [Act.put, List.setIfInBounds_toArray, List.set_cons_zero, List.set_cons_succ]
    refine plan_move rfl (by rfl) (fun K hK => ?_)
    go_simp
    (with_reducible refine (NM.out _).mono ?_)
    rintro e w2 ⟨rfl, hb2⟩
    refine hK.out _ _ (hH.out.keep hb2) ?_
    clear hH hK hb2 K
    intro hH
    try simp only [Act.put, List.setIfInBounds_toArray, List.set_cons_zero, List.set_cons_succ]
    iterate 2
      refine plan_add rfl (by rfl) _ _ _ _ rfl _ _ (by rfl) (by rfl) (by simp [mk_size]; omega) ?_
      try simp only [Act.put, List.setIfInBounds_toArray, List.set_cons_zero, List.set_cons_succ]
    refine plan_move rfl (by rfl) (fun K hK => ?_)
    go_simp
    (with_reducible refine (TY.out _).mono ?_)
    rintro e w2 ⟨rfl, hb2⟩
    refine hK.out _ _ (hH.out.keep hb2) ?_
    clear hH hK hb2 K
    intro hH
    try simp only [Act.put, List.setIfInBounds_toArray, List.set_cons_zero, List.set_cons_succ]
    iterate 2
      refine plan_add rfl (by rfl) _ _ _ _ rfl _ _ (by rfl) (by rfl) (by simp [mk_size]; omega) ?_
      try simp only [Act.put, List.setIfInBounds_toArray, List.set_cons_zero, List.set_cons_succ]
    refine plan_move rfl (by rfl) (fun K hK => ?_)
    go_simp
    (with_reducible refine (CK.out _).mono ?_)
    rintro e w2 ⟨rfl, hb2⟩
    refine hK.out _ _ (hH.out.keep hb2) ?_
    clear hH hK hb2 K
    intro hH
    try simp only [Act.put, List.setIfInBounds_toArray, List.set_cons_zero, List.set_cons_succ]
    iterate 2
      refine plan_add rfl (by rfl) _ _ _ _ rfl _ _ (by rfl) (by rfl) (by simp [mk_size]; omega) ?_
      try simp only [Act.put, List.setIfInBounds_toArray, List.set_cons_zero, List.set_cons_succ]
    refine plan_move rfl (by rfl) (fun K hK => ?_)
    go_simp
    (with_reducible refine (NM.out _).mono ?_)
    rintro e w2 ⟨rfl, hb2⟩
    refine hK.out _ _ (hH.out.keep hb2) ?_
    clear hH hK hb2 K
    intro hH
    try simp only [Act.put, List.setIfInBounds_toArray, List.set_cons_zero, List.set_cons_succ]
    iterate 2
      refine plan_add rfl (by rfl) _ _ _ _ rfl _ _ (by rfl) (by rfl) (by simp [mk_size]; omega) ?_
      try simp only [Act.put, List.setIfInBounds_toArray, List.set_cons_zero, List.set_cons_succ]
    refine plan_move rfl (by rfl) (fun K hK => ?_)
    go_simp
    (with_reducible refine (TZ.out _).mono ?_)
    rintro e w2 ⟨rfl, hb2⟩
    refine hK.out _ _ (hH.out.keep hb2) ?_
    clear hH hK hb2 K
    intro hH
    try simp only [Act.put, List.setIfInBounds_toArray, List.set_cons_zero, List.set_cons_succ]
    iterate 2
      refine plan_add rfl (by rfl) _ _ _ _ rfl _ _ (by rfl) (by rfl) (by simp [mk_size]; omega) ?_
      try simp only [Act.put, List.setIfInBounds_toArray, List.set_cons_zero, List.set_cons_succ]
    refine plan_move rfl (by rfl) (fun K hK => ?_)
    go_simp
    (with_reducible refine (CK.out _).mono ?_)
    rintro e w2 ⟨rfl, hb2⟩
    refine hK.out _ _ (hH.out.keep hb2) ?_
    clear hH hK hb2 K
    intro hH
    try simp only [Act.put, List.setIfInBounds_toArray, List.set_cons_zero, List.set_cons_succ]
    iterate 2
      refine plan_add rfl (by rfl) _ _ _ _ rfl _ _ (by rfl) (by rfl) (by simp [mk_size]; omega) ?_
      try simp only [Act.put, List.setIfInBounds_toArray, List.set_cons_zero, List.set_cons_succ]
    refine plan_move rfl (by rfl) (fun K hK => ?_)
    go_simp
    (with_reducible refine (NM.out _).mono ?_)
    rintro e w2 ⟨rfl, hb2⟩
    refine hK.out _ _ (hH.out.keep hb2) ?_
    clear hH hK hb2 K
    intro hH
    try simp only [Act.put, List.setIfInBounds_toArray, List.set_cons_zero, List.set_cons_succ]
    iterate 4
      refine plan_add rfl (by rfl) _ _ _ _ rfl _ _ (by rfl) (by rfl) (by simp [mk_size]; omega) ?_
      try simp only [Act.put, List.setIfInBounds_toArray, List.set_cons_zero, List.set_cons_succ]
    refine plan_move rfl (by rfl) (fun K hK => ?_)
    go_simp
    (with_reducible refine (CK.out _).mono ?_)
    rintro e w2 ⟨rfl, hb2⟩
    refine hK.out _ _ (hH.out.keep hb2) ?_
    clear hH hK hb2 K
    intro hH
    try simp only [Act.put, List.setIfInBounds_toArray, List.set_cons_zero, List.set_cons_succ]
    iterate 2
      refine plan_add rfl (by rfl) _ _ _ _ rfl _ _ (by rfl) (by rfl) (by simp [mk_size]; omega) ?_
      try simp only [Act.put, List.setIfInBounds_toArray, List.set_cons_zero, List.set_cons_succ]
    refine plan_move rfl (by rfl) (fun K hK => ?_)
    go_simp
    (with_reducible refine (TY.out _).mono ?_)
    rintro e w2 ⟨rfl, hb2⟩
    refine hK.out _ _ (hH.out.keep hb2) ?_
    clear hH hK hb2 K
    intro hH
    try simp only [Act.put, List.setIfInBounds_toArray, List.set_cons_zero, List.set_cons_succ]
    iterate 1
      refine plan_add rfl (by rfl) _ _ _ _ rfl _ _ (by rfl) (by rfl) (by simp [mk_size]; omega) ?_
      try simp only [Act.put, List.setIfInBounds_toArray, List.set_cons_zero, List.set_cons_succ]
    iterate 1
      refine plan_take (v := ?_) rfl (by rfl) ?_ ?_
      rotate_left
      · intro w2 hSw
        have hc := civ_cells hSw.1
        clear hSw
        go_simp
        try with_reducible rfl
      try simp only [Act.put, List.setIfInBounds_toArray, List.set_cons_zero, List.set_cons_succ]
    refine plan_move rfl (by rfl) (fun K hK => ?_)
    obtain ⟨hq1, ⟨ol, hol, hq2⟩, hq3⟩ := hH.out
    refine wp_store_row 64 _ _ rfl (w.heap.size + 1) 64 [.string _, .string _, .string _] ol (by rfl) (by rfl) hq2 (by rw [hol]; rfl) (by kernel_rfl) (by simp [Value.oneCell']) ?_
    intro w2 h5 h6
    refine hK.out _ _ (⟨hq1.only h6 (by omega), ⟨_, rfl, h5⟩, h6.below hq3 (by omega)⟩) ?_
    clear hH hK K hq1 hq2 hq3 hol ol
    intro hH
    try simp only [Act.put]
    refine plan_done ?_
    have r0 : w2.cell? ⟨w.heap.size + 1, 0, none⟩ = some (.string (cat0 W D N Y C)) := h5.cell (j := 0) rfl
    have r1 : w2.cell? ⟨w.heap.size + 1, 1, none⟩ = some (.string (cat1 W D N Z C)) := h5.cell (j := 1) rfl
    have r2 : w2.cell? ⟨w.heap.size + 1, 2, none⟩ = some (.string (cat2 W E N Y C)) := by
      rw [← HE.out]
      first
        | (rw [if_pos (by omega)]; exact h5.cell (j := 2) rfl)
        | (rw [if_neg (by omega)]; exact h5.cell (j := 2) rfl)
    have hbel := hH.out.2.2
    have R0 := Lib.hid r0
    have R1 := Lib.hid r1
    have R2 := Lib.hid r2
    clear hH q1 h5 r0 r1 r2 h6
    go_wp2
    exact bodyPost_ret (v := .agg #[.string (cat0 W D N Y C), .string (cat1 W D N Z C), .string (cat2 W E N Y C)]) (by simp [results, Tryd.results57, go_sem, R0.out, R1.out, R2.out]) rfl ⟨rfl, hbel⟩
end Go.Proofs.YtpmidmdodjgeeaaDoor
