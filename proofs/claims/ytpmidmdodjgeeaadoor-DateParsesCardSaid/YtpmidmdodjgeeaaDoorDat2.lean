/- Walks of layer 2: names of days and months, numbers of two and four digits, the time of day. Condition: numbers within the calendar's bounds. -/
import Derived.Test.YtpmidmdodjgeeaaDoorDat1
import Derived.Test.YtpmidmdodjgeeaaDoorOct9
import Derived.Test.YtpmidmdodjgeeaaDoorShelf
namespace Go.Proofs.YtpmidmdodjgeeaaDoor
open Go.RowKit IH
set_option maxRecDepth 100000

theorem repeatL_48 (c : Nat) : Lib.repeatL [48] c = List.replicate c 48 := by
  induction c with
  | zero => rfl
  | succ c ih => rw [List.replicate_succ, ← ih]; rfl

theorem two_pad (N sz : Nat) (hN : N < 1000000) (hz : sz ≤ 10) (w : World) :
    Calls Tryd.prog 86 #[.int .i64 N, .int .i64 sz] w fun e w' => e = .returned (.string ⟨(padded sz N).toArray⟩) ∧ Below w.heap.size w w' := by
  have hl := digs_length 10 64 N
  have e1 : printN N 10 = digs 10 64 N := by unfold printN baseOf; simp
  have C := Lib.hid (Print_any N 10 (by omega) (by omega))
  rw [e1] at C
  obtain ⟨s, hs⟩ : ∃ s : ByteArray, s = ⟨(digs 10 64 N).toArray⟩ := ⟨_, rfl⟩
  have hss : s.size = (digs 10 64 N).length := by rw [hs, size_mk]
  have hfin : (⟨(padded sz N).toArray⟩ : ByteArray) = ⟨(List.replicate (sz - s.size) 48).toArray⟩ ++ s := by
    apply bytes_inj
    rw [append_data, hss, hs]
    simp [padded]
  rw [hfin]
  rw [← hs] at C
  have h64 : s.size ≤ 64 := by omega
  have R := Lib.hid (fun w => Tryd.strings_Repeat ⟨#[48]⟩ (sz - s.size) w (by omega) (by rw [show (⟨#[48]⟩ : ByteArray).size = 1 from rfl, Nat.one_mul]; omega))
  have er : Lib.repeatL (⟨#[48]⟩ : ByteArray).data.toList (sz - s.size) = List.replicate (sz - s.size) 48 := repeatL_48 _
  rw [er] at R
  have hmx : max (0 : Int) ((sz : Int) - (s.size : Int)) = ((sz - s.size : Nat) : Int) := by omega
  have Hmx := Lib.hid hmx
  have hrs : (⟨(List.replicate (sz - s.size) (48 : UInt8)).toArray⟩ : ByteArray).size ≤ 10 := by rw [size_mk, List.length_replicate]; omega
  generalize (⟨(List.replicate (sz - s.size) (48 : UInt8)).toArray⟩ : ByteArray) = X at *
  clear hmx er hs hss hl e1 hfin
  go_enter Tryd.func86, Tryd.ntmps86
  go_wp2_with (first
    | (go_at_call 115; refine (C.out _).mono ?_; rintro e w1 ⟨rfl, nq, rfl⟩)
    | (go_at_call 116; rw [Hmx.out]; refine (R.out _).mono ?_; rintro e w2 ⟨rfl, hb⟩))
  go_ret
  exact ⟨rfl, below_step (below_drewN (Below.refl _ _) nq) hb⟩

theorem two2_any (n : Int) (h0 : 0 ≤ n) (h1 : n < 100) (w : World) :
    Calls Tryd.prog 86 #[.int .i64 n, .int .i64 2] w fun e w' => e = .returned (.string ⟨(d2 n).toArray⟩) ∧ Below w.heap.size w w' := by
  obtain ⟨N, rfl⟩ : ∃ N : Nat, n = N := ⟨n.toNat, by omega⟩
  rw [← padded2 N (by omega)]
  exact two_pad N 2 (by omega) (by omega) w
theorem two4_any (n : Int) (h0 : 0 ≤ n) (h1 : n < 10000) (w : World) :
    Calls Tryd.prog 86 #[.int .i64 n, .int .i64 4] w fun e w' => e = .returned (.string ⟨(d4 n).toArray⟩) ∧ Below w.heap.size w w' := by
  obtain ⟨N, rfl⟩ : ∃ N : Nat, n = N := ⟨n.toNat, by omega⟩
  rw [← padded4 N (by omega)]
  exact two_pad N 4 (by omega) (by omega) w

theorem weekday_any (i : Int) (h0 : 0 ≤ i) (h1 : i < 7) (w : World) :
    Calls Tryd.prog 85 #[.int .i64 i] w fun e w' => e = .returned (.string ⟨(dayN i).toArray⟩) ∧ Below w.heap.size w w' := by
  have hq : i = 0 ∨ i = 1 ∨ i = 2 ∨ i = 3 ∨ i = 4 ∨ i = 5 ∨ i = 6 := by omega
  rcases hq with rfl | rfl | rfl | rfl | rfl | rfl | rfl
  all_goals
    go_enter Tryd.func85, Tryd.ntmps85
    go_wp2
    go_quiet (fail)
    go_wp2
    go_ret
    exact ⟨rfl, below_drewN ((Below.refl _ _).alloc (Nat.le_refl _) _) _⟩

def civV (y m d h mi s k : Int) : List Value := [.int .i64 y, .int .i64 m, .int .i64 d, .int .i64 h, .int .i64 mi, .int .i64 s, .int .i64 k]

theorem name_any (y m d h mi s k : Int) (h1 : 1 ≤ m) (h2 : m ≤ 12) (w : World) :
    Calls Tryd.prog 87 #[.agg (civV y m d h mi s k).toArray] w fun e w' => e = .returned (.string ⟨(monN m).toArray⟩) ∧ Below w.heap.size w w' := by
  unfold civV
  have hq : m = 1 ∨ m = 2 ∨ m = 3 ∨ m = 4 ∨ m = 5 ∨ m = 6 ∨ m = 7 ∨ m = 8 ∨ m = 9 ∨ m = 10 ∨ m = 11 ∨ m = 12 := by omega
  rcases hq with rfl | rfl | rfl | rfl | rfl | rfl | rfl | rfl | rfl | rfl | rfl | rfl
  all_goals
    go_enter Tryd.func87, Tryd.ntmps87
    go_wp2
    go_ret
    exact ⟨rfl, (Below.refl _ _).alloc (Nat.le_refl _) _⟩

theorem civ_cells {w : World} {g : Nat} {e : TypeId} {y m d h mi s k : Int} (hr : RowAt w g e (civV y m d h mi s k)) :
    w.cell? ⟨g, 0, none⟩ = some (.int .i64 y) ∧ w.cell? ⟨g, 1, none⟩ = some (.int .i64 m) ∧ w.cell? ⟨g, 2, none⟩ = some (.int .i64 d) ∧ w.cell? ⟨g, 3, none⟩ = some (.int .i64 h) ∧ w.cell? ⟨g, 4, none⟩ = some (.int .i64 mi) ∧ w.cell? ⟨g, 5, none⟩ = some (.int .i64 s) ∧ w.cell? ⟨g, 6, none⟩ = some (.int .i64 k) :=
  ⟨hr.cell (j := 0) rfl, hr.cell (j := 1) rfl, hr.cell (j := 2) rfl, hr.cell (j := 3) rfl, hr.cell (j := 4) rfl, hr.cell (j := 5) rfl, hr.cell (j := 6) rfl⟩
theorem row_keep {w w1 w2 : World} {g : Nat} {e : TypeId} {cs : List Value} (h : RowAt w1 g e cs ∧ Below w.heap.size w w1) (hb : Below w1.heap.size w1 w2) : RowAt w2 g e cs ∧ Below w.heap.size w w2 :=
  ⟨h.1.below hb h.1.lt, below_step h.2 hb⟩
theorem d2_size (n : Int) : (⟨(d2 n).toArray⟩ : ByteArray).size = 2 := rfl

set_option maxHeartbeats 2000000 in
theorem clock_any (y m d h mi s k : Int) (h0 : 0 ≤ h) (h1 : h < 100) (m0 : 0 ≤ mi) (m1 : mi < 100) (s0 : 0 ≤ s) (s1 : s < 100) (w : World) :
    Calls Tryd.prog 88 #[.agg (civV y m d h mi s k).toArray] w fun e w' => e = .returned (.string ⟨(d2 h ++ [58] ++ d2 mi ++ [58] ++ d2 s).toArray⟩) ∧ Below w.heap.size w w' := by
  have T1 := Lib.hid (two2_any h h0 h1)
  have T2 := Lib.hid (two2_any mi m0 m1)
  have T3 := Lib.hid (two2_any s s0 s1)
  have z1 := d2_size h
  have z2 := d2_size mi
  have z3 := d2_size s
  have hfin : (⟨(d2 h ++ [58] ++ d2 mi ++ [58] ++ d2 s).toArray⟩ : ByteArray) = (⟨(d2 h).toArray⟩ : ByteArray) ++ ⟨#[58]⟩ ++ ⟨(d2 mi).toArray⟩ ++ ⟨#[58]⟩ ++ ⟨(d2 s).toArray⟩ := by
    apply bytes_inj; simp
  rw [hfin]
  generalize (⟨(d2 h).toArray⟩ : ByteArray) = X1 at *
  generalize (⟨(d2 mi).toArray⟩ : ByteArray) = X2 at *
  generalize (⟨(d2 s).toArray⟩ : ByteArray) = X3 at *
  have y1 : X1.size ≤ 2 := by omega
  have y2 : X2.size ≤ 2 := by omega
  have y3 : X3.size ≤ 2 := by omega
  clear hfin z1 z2 z3
  unfold civV
  go_enter Tryd.func88, Tryd.ntmps88
  go_wp2
  have hbox := RowAt.new w 83 (civV y m d h mi s k)
  unfold civV at hbox
  have hb0 : Below w.heap.size w (w.alloc (.cells #[.int .i64 y, .int .i64 m, .int .i64 d, .int .i64 h, .int .i64 mi, .int .i64 s, .int .i64 k] 83)) := (Below.refl _ _).alloc (Nat.le_refl _) _
  refine wp_region_plan (fun w' => RowAt w' w.heap.size 83 (civV y m d h mi s k) ∧ Below w.heap.size w w') [(0, true), (1, true), (4, true), (5, true), (9, true), (10, true), (2, false), (3, true), (6, false), (7, true), (8, true), (11, false), (12, true), (13, true)] (by kernel_rfl) (by kernel_rfl) rfl (by kernel_rfl) (⟨hbox, below_drewN hb0 1⟩) ?_
  clear hbox hb0
  intro w1 hH
  iterate 6
    refine plan_take (v := ?_) rfl (by rfl) ?_ ?_
    rotate_left
    · intro w2 hSw
      have hc := civ_cells hSw.1
      clear hSw
      go_simp
      try with_reducible rfl
    try simp only [Act.put, List.setIfInBounds_toArray, List.set_cons_zero, List.set_cons_succ]
  refine plan_move rfl (by rfl) (fun K hK => ?_)
  go_simp
  refine (T1.out _).mono ?_
  rintro e w2 ⟨rfl, hb2⟩
  refine hK.out _ _ (row_keep hH.out hb2) ?_
  clear hH hK hb2 K
  intro hH
  try simp only [Act.put, List.setIfInBounds_toArray, List.set_cons_zero, List.set_cons_succ]
  iterate 1
    refine plan_add rfl (by rfl) _ _ _ _ rfl _ _ (by rfl) (by rfl) (by simp [mk_size]; omega) ?_
    try simp only [Act.put, List.setIfInBounds_toArray, List.set_cons_zero, List.set_cons_succ]
  refine plan_move rfl (by rfl) (fun K hK => ?_)
  go_simp
  refine (T2.out _).mono ?_
  rintro e w2 ⟨rfl, hb2⟩
  refine hK.out _ _ (row_keep hH.out hb2) ?_
  clear hH hK hb2 K
  intro hH
  try simp only [Act.put, List.setIfInBounds_toArray, List.set_cons_zero, List.set_cons_succ]
  iterate 2
    refine plan_add rfl (by rfl) _ _ _ _ rfl _ _ (by rfl) (by rfl) (by simp [mk_size]; omega) ?_
    try simp only [Act.put, List.setIfInBounds_toArray, List.set_cons_zero, List.set_cons_succ]
  refine plan_move rfl (by rfl) (fun K hK => ?_)
  go_simp
  refine (T3.out _).mono ?_
  rintro e w2 ⟨rfl, hb2⟩
  refine hK.out _ _ (row_keep hH.out hb2) ?_
  clear hH hK hb2 K
  intro hH
  try simp only [Act.put, List.setIfInBounds_toArray, List.set_cons_zero, List.set_cons_succ]
  iterate 1
    refine plan_add rfl (by rfl) _ _ _ _ rfl _ _ (by rfl) (by rfl) (by simp [mk_size]; omega) ?_
    try simp only [Act.put, List.setIfInBounds_toArray, List.set_cons_zero, List.set_cons_succ]
  iterate 1
    refine plan_take (v := ?_) rfl (by rfl) ?_ ?_
    rotate_left
    · intro w2 hSw
      have hc := civ_cells hSw.1
      clear hSw
      go_simp
      try with_reducible rfl
    try simp only [Act.put, List.setIfInBounds_toArray, List.set_cons_zero, List.set_cons_succ]
  refine plan_done ?_
  have hbel := hH.out.2
  go_wp2
  go_ret
  exact ⟨rfl, hbel⟩
end Go.Proofs.YtpmidmdodjgeeaaDoor
