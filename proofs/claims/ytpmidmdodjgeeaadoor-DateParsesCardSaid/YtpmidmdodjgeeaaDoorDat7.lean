/- Walks of layer 2: numbers, times of day and dates out of texts. Condition: texts are within bounds; the receiver is a date known whole. -/
import Derived.Test.YtpmidmdodjgeeaaDoorShape
import Derived.Test.YtpmidmdodjgeeaaDoorDat6
import Derived.Test.YtpmidmdodjgeeaaDoorOct8
namespace Go.Proofs.YtpmidmdodjgeeaaDoor
open Go.RowKit IH
set_option maxRecDepth 100000

theorem numR_err (l : List UInt8) : (numR 10 9999 l).2 = 0 ∨ (numR 10 9999 l).2 = 10 ∨ (numR 10 9999 l).2 = 12 := by
  unfold numR
  split
  · simp
  · split
    · simp
    · split
      · simp
      · unfold accR; split <;> simp
theorem digits_any (s : ByteArray) (hs : s.size ≤ 1000000000) (w : World) :
    Calls Tryd.prog 111 #[.string s] w fun e w' => e = .returned (.int .i64 (digitsD s.data.toList)) ∧ Below w.heap.size w w' := by
  have C := Number_any s hs 9999 (by omega) (by omega)
  have he := numR_err s.data.toList
  unfold digitsD
  obtain ⟨N, hN⟩ : ∃ N, (numR 10 9999 s.data.toList).1 = N := ⟨_, rfl⟩
  obtain ⟨E, hE⟩ : ∃ E, (numR 10 9999 s.data.toList).2 = E := ⟨_, rfl⟩
  rw [hN, hE] at C
  rw [hE] at he
  rw [hN, hE]
  have C' := Lib.hid C
  clear C hN hE
  rcases he with rfl | rfl | rfl
  all_goals
    go_enter Tryd.func111, Tryd.ntmps111
    go_wp2_with (go_at_call 126; (with_reducible refine (C'.out _).mono ?_); rintro e w2 ⟨rfl, hb2⟩)
    go_ret
    exact ⟨rfl, hb2⟩

theorem strsV_cells {w : World} {g : Nat} {e : TypeId} {L : List (List UInt8)} (h : RowAt w g e (strsV L)) (j : Nat) {l : List UInt8} (hl : L[j]? = some l) : w.cell? ⟨g, j, none⟩ = some (.string ⟨l.toArray⟩) :=
  h.cell (by rw [strsV_get, hl]; rfl)
theorem pieces_le (c : UInt8) (l : List UInt8) : ∀ p ∈ pieces c l, p.length ≤ l.length := by
  induction l with
  | nil => simp [pieces]
  | cons x r ih =>
    unfold pieces
    split
    · intro p hp
      rcases List.mem_cons.1 hp with rfl | hp
      · simp
      · have := ih p hp; simp; omega
    · split
      · rename_i h0; exact absurd h0 (pieces_ne c r)
      · rename_i q qs h0
        rw [h0] at ih
        intro p hp
        rcases List.mem_cons.1 hp with rfl | hp
        · have := ih q (by simp); simp; omega
        · have := ih p (by simp [hp]); simp; omega

/-- What the reading of a time of day leaves. -/
def TimedOut (s : List UInt8) (g : Nat) (y m d k : Int) (w w' : World) : Prop :=
  ∃ h mi se : Int, RowAt w' g 83 (civV y m d h mi se k) ∧ (∀ r, timedL s = some r → r = (h, mi, se)) ∧ Save w.heap.size g w w'
theorem timed_none {s : List UInt8} (h : ∀ a b c, pieces 58 s = [a, b, c] → ¬ (s.length = 8 ∧ a.length = 2 ∧ b.length = 2)) : timedL s = none := by
  unfold timedL
  split
  · rename_i a b c hp
    rw [if_neg]
    intro hc
    exact h a b c hp ⟨hc.1, hc.2.1, hc.2.2.1⟩
  · rfl

set_option maxHeartbeats 4000000 in
theorem timed_no (s : ByteArray) (g : Nat) (w : World) (hsh : w.ShapedOpen Tryd.prog) (hs : s.size < 1073741824)
    (hno : ∀ a b c, pieces 58 s.data.toList = [a, b, c] → ¬ (s.data.toList.length = 8 ∧ a.length = 2 ∧ b.length = 2)) :
    Calls Tryd.prog 81 #[.pointer (some ⟨g, 0, none⟩), .string s] w fun e w' => e = .returned (.bool false) ∧ Below w.heap.size w w' := by
  have SP := Lib.hid (Split1_any s 58 w hsh hs)
  have hlen := pieces_count 58 s.data.toList
  rw [data_len] at hno
  by_cases h8 : s.size = 8
  · have h8b : ((s.size : Int) != 8) = false := by rw [h8]; rfl
    by_cases h3 : (pieces 58 s.data.toList).length = 3
    · match hp : pieces 58 s.data.toList, h3 with
      | [a, b, c], _ =>
        have hq := hno a b c hp
        rw [hp] at SP
        clear hp hlen h3 hno
        obtain ⟨A, hA⟩ : ∃ A : ByteArray, A = ⟨a.toArray⟩ := ⟨_, rfl⟩
        obtain ⟨B, hB⟩ : ∃ B : ByteArray, B = ⟨b.toArray⟩ := ⟨_, rfl⟩
        have za : A.size = a.length := by rw [hA, size_mk]
        have zb : B.size = b.length := by rw [hB, size_mk]
        rw [← za, ← zb] at hq
        have HA := Lib.hid hA; have HB := Lib.hid hB
        clear hA hB za zb
        by_cases ha : A.size = 2
        · have hb : ¬ B.size = 2 := fun hb => hq ⟨h8, ha, hb⟩
          have ha' : ((A.size : Int) != 2) = false := by rw [ha]; rfl
          have hb' : ((B.size : Int) != 2) = true := by rw [bne_iff_ne]; omega
          clear ha hb h8 hq
          go_enter Tryd.func81, Tryd.ntmps81
          go_wp2_with (go_at_call 78; refine SP.out.mono ?_; rintro e w2 ⟨rfl, hr2, hb2⟩; have c0 := strsV_cells hr2 0 rfl; have c1 := strsV_cells hr2 1 rfl; rw [← HA.out] at c0; rw [← HB.out] at c1; clear hr2)
          go_ret
          exact ⟨rfl, hb2⟩
        · have ha' : ((A.size : Int) != 2) = true := by rw [bne_iff_ne]; omega
          clear ha h8 hq
          go_enter Tryd.func81, Tryd.ntmps81
          go_wp2_with (go_at_call 78; refine SP.out.mono ?_; rintro e w2 ⟨rfl, hr2, hb2⟩; have c0 := strsV_cells hr2 0 rfl; have c1 := strsV_cells hr2 1 rfl; rw [← HA.out] at c0; rw [← HB.out] at c1; clear hr2)
          go_ret
          exact ⟨rfl, hb2⟩
    · generalize pieces 58 s.data.toList = L at *
      have h3' : ((L.length : Int) != 3) = true := by rw [bne_iff_ne]; omega
      clear h8 hno hlen
      go_enter Tryd.func81, Tryd.ntmps81
      go_wp2_with (go_at_call 78; refine SP.out.mono ?_; rintro e w2 ⟨rfl, hr2, hb2⟩; clear hr2)
      go_ret
      exact ⟨rfl, hb2⟩
  · have h8b : ((s.size : Int) != 8) = true := by rw [bne_iff_ne]; omega
    generalize pieces 58 s.data.toList = L at *
    clear h8 hno hlen
    go_enter Tryd.func81, Tryd.ntmps81
    go_wp2_with (go_at_call 78; refine SP.out.mono ?_; rintro e w2 ⟨rfl, hr2, hb2⟩; clear hr2)
    go_ret
    exact ⟨rfl, hb2⟩

/-- Where the reading of a time of day stands. -/
def TimedS (L : List (List UInt8)) (g r : Nat) (y m d k : Int) (w w1 : World) : Prop :=
  RowAt w1 r 9 (strsV L) ∧ (∃ h mi se : Int, RowAt w1 g 83 (civV y m d h mi se k)) ∧ Save w.heap.size g w w1 ∧ w.heap.size ≤ w1.heap.size
theorem TimedS.keep {L : List (List UInt8)} {g r : Nat} {y m d k : Int} {w w1 w2 : World} (h : TimedS L g r y m d k w w1) (hb : Below w1.heap.size w1 w2) : TimedS L g r y m d k w w2 := by
  obtain ⟨h1, ⟨a, b, c, h2⟩, h3, h4⟩ := h
  exact ⟨h1.below hb h1.lt, ⟨a, b, c, h2.below hb h2.lt⟩, h3.step hb h4, Nat.le_trans h4 hb.size⟩
theorem strs3 {w : World} {g : Nat} {e : TypeId} {a b c : List UInt8} (h : RowAt w g e (strsV [a, b, c])) :
    w.cell? ⟨g, 0, none⟩ = some (.string ⟨a.toArray⟩) ∧ w.cell? ⟨g, 1, none⟩ = some (.string ⟨b.toArray⟩) ∧ w.cell? ⟨g, 2, none⟩ = some (.string ⟨c.toArray⟩) :=
  ⟨strsV_cells h 0 rfl, strsV_cells h 1 rfl, strsV_cells h 2 rfl⟩

def inTime (a b c : Int) : Bool := decide (0 ≤ a) && decide (a < 24) && (decide (0 ≤ b) && decide (b < 60)) && (decide (0 ≤ c) && decide (c < 60))
set_option maxHeartbeats 4000000 in
theorem timed_yes (s : ByteArray) (g : Nat) (y m d h mi se k : Int) (w : World) (hsh : w.ShapedOpen Tryd.prog) (hs : s.size < 1073741824) (hr : RowAt w g 83 (civV y m d h mi se k))
    (a b c : List UInt8) (hp : pieces 58 s.data.toList = [a, b, c]) (h8 : s.size = 8) (ha : a.length = 2) (hb : b.length = 2) :
    Calls Tryd.prog 81 #[.pointer (some ⟨g, 0, none⟩), .string s] w fun e w' => e = .returned (.bool (inTime (digitsD a) (digitsD b) (digitsD c))) ∧ RowAt w' g 83 (civV y m d (digitsD a) (digitsD b) (digitsD c) k) ∧ Save w.heap.size g w w' := by
  have SP := Split1_any s 58 w hsh hs
  have hle := pieces_le 58 s.data.toList
  rw [data_len] at hle
  rw [hp] at SP hle
  have hc8 : c.length ≤ 8 := by have := hle c (by simp); omega
  have HS := Lib.hid SP
  have HR := Lib.hid hr
  have hglt := hr.lt
  have h8b : ((s.size : Int) != 8) = false := by rw [h8]; rfl
  clear SP hle hp hr h8 hsh
  obtain ⟨A, hA⟩ : ∃ A : ByteArray, (⟨a.toArray⟩ : ByteArray) = A := ⟨_, rfl⟩
  obtain ⟨B, hB⟩ : ∃ B : ByteArray, (⟨b.toArray⟩ : ByteArray) = B := ⟨_, rfl⟩
  obtain ⟨C, hC⟩ : ∃ C : ByteArray, (⟨c.toArray⟩ : ByteArray) = C := ⟨_, rfl⟩
  have za : A.size = 2 := by rw [← hA, size_mk, ha]
  have zb : B.size = 2 := by rw [← hB, size_mk, hb]
  have zc : C.size ≤ 100 := by rw [← hC, size_mk]; omega
  have DA := digits_any A (by omega)
  have DB := digits_any B (by omega)
  have DC := digits_any C (by omega)
  rw [show A.data.toList = a by rw [← hA]] at DA
  rw [show B.data.toList = b by rw [← hB]] at DB
  rw [show C.data.toList = c by rw [← hC]] at DC
  have ba := digitsD_bd a
  have bb := digitsD_bd b
  have bc := digitsD_bd c
  generalize digitsD a = na at *
  generalize digitsD b = nb at *
  generalize digitsD c = nc at *
  replace DA := Lib.hid DA
  replace DB := Lib.hid DB
  replace DC := Lib.hid DC
  have HA := Lib.hid hA
  have HB := Lib.hid hB
  have HC := Lib.hid hC
  have ha' : ((A.size : Int) != 2) = false := by rw [za]; rfl
  have hb' : ((B.size : Int) != 2) = false := by rw [zb]; rfl
  clear hA hB hC za zb ha hb
  go_enter Tryd.func81, Tryd.ntmps81
  go_upto_region 4 with (go_at_call 78; refine HS.out.mono ?_; rintro e w2 ⟨rfl, hr2, hb2⟩; obtain ⟨c0, c1, c2⟩ := strs3 hr2; rw [HA.out] at c0; rw [HB.out] at c1; rw [HC.out] at c2; have HR2 := Lib.hid hr2; clear hr2)
  have hS0 : TimedS [a, b, c] g w.heap.size y m d k w w2 := ⟨HR2.out, ⟨h, mi, se, HR.out.below hb2 hglt⟩, below_save hb2, hb2.size⟩
  clear c0 c1 c2 hb2
  have hne : g ≠ w.heap.size := by omega
  refine wp_region_plan (fun w' => TimedS [a, b, c] g w.heap.size y m d k w w') [(0, true), (1, true), (2, true), (3, true), (4, true), (5, true), (7, true), (8, true), (9, true), (11, true), (12, true), (13, true), (6, false), (10, false), (14, false), (15, true), (16, true), (17, false), (18, true), (19, true), (20, false), (21, true), (22, true), (23, false)] (by kernel_rfl) (by kernel_rfl) rfl (by kernel_rfl) (hS0.keep (below_drewN (Below.refl _ _) 1)) ?_
  clear hS0
  intro w1 hH
  iterate 12
    refine plan_take (v := ?_) rfl (by rfl) ?_ ?_
    rotate_left
    · intro w2 hSw
      obtain ⟨c0, c1, c2⟩ := strs3 hSw.1
      rw [HA.out] at c0
      rw [HB.out] at c1
      rw [HC.out] at c2
      clear hSw
      go_simp
      try with_reducible rfl
    try simp only [Act.put, List.setIfInBounds_toArray, List.set_cons_zero, List.set_cons_succ]
  refine plan_move rfl (by rfl) (fun K hK => ?_)
  go_simp
  (with_reducible refine (DA.out _).mono ?_)
  rintro e w3 ⟨rfl, hb2⟩
  refine hK.out _ _ (hH.out.keep hb2) ?_
  clear hH hK hb2 K
  intro hH
  try simp only [Act.put, List.setIfInBounds_toArray, List.set_cons_zero, List.set_cons_succ]
  refine plan_move rfl (by rfl) (fun K hK => ?_)
  go_simp
  (with_reducible refine (DB.out _).mono ?_)
  rintro e w3 ⟨rfl, hb2⟩
  refine hK.out _ _ (hH.out.keep hb2) ?_
  clear hH hK hb2 K
  intro hH
  try simp only [Act.put, List.setIfInBounds_toArray, List.set_cons_zero, List.set_cons_succ]
  refine plan_move rfl (by rfl) (fun K hK => ?_)
  go_simp
  (with_reducible refine (DC.out _).mono ?_)
  rintro e w3 ⟨rfl, hb2⟩
  refine hK.out _ _ (hH.out.keep hb2) ?_
  clear hH hK hb2 K
  intro hH
  try simp only [Act.put, List.setIfInBounds_toArray, List.set_cons_zero, List.set_cons_succ]
  iterate 2
    refine plan_take (v := ?_) rfl (by rfl) ?_ ?_
    rotate_left
    · intro w2 hSw
      obtain ⟨c0, c1, c2⟩ := strs3 hSw.1
      rw [HA.out] at c0
      rw [HB.out] at c1
      rw [HC.out] at c2
      clear hSw
      go_simp
      try with_reducible rfl
    try simp only [Act.put, List.setIfInBounds_toArray, List.set_cons_zero, List.set_cons_succ]
  refine plan_move rfl (by rfl) (fun K hK => ?_)
  obtain ⟨h1, ⟨x1, x2, x3, h2⟩, h3, h4⟩ := hH.out
  have f3 := row_frozen h2 3 (by show 3 < 7; decide)
  have q3 := h2.cell (j := 3) rfl
  go_simp
  refine hK.out _ _ (⟨h1.only (Only.setCell g 3 _ _) (Ne.symm hne), ⟨_, _, _, h2.set_ (j := 3) (by show 3 < 7; decide) _⟩, h3.setCell 3 _, by simpa using h4⟩) ?_
  have h2a : RowAt _ g 83 (civV y m d na x2 x3 k) := h2.set_ (j := 3) (by show 3 < 7; decide) (.int .i64 na)
  clear hH hK K f3 q3 h1 h2 h3 h4
  intro hH
  try simp only [Act.put]
  iterate 2
    refine plan_take (v := ?_) rfl (by rfl) ?_ ?_
    rotate_left
    · intro w2 hSw
      obtain ⟨c0, c1, c2⟩ := strs3 hSw.1
      rw [HA.out] at c0
      rw [HB.out] at c1
      rw [HC.out] at c2
      clear hSw
      go_simp
      try with_reducible rfl
    try simp only [Act.put, List.setIfInBounds_toArray, List.set_cons_zero, List.set_cons_succ]
  refine plan_move rfl (by rfl) (fun K hK => ?_)
  obtain ⟨h1, _, h3, h4⟩ := hH.out
  have f4 := row_frozen h2a 4 (by show 4 < 7; decide)
  have q4 := h2a.cell (j := 4) rfl
  go_simp
  refine hK.out _ _ (⟨h1.only (Only.setCell g 4 _ _) (Ne.symm hne), ⟨_, _, _, h2a.set_ (j := 4) (by show 4 < 7; decide) _⟩, h3.setCell 4 _, by simpa using h4⟩) ?_
  have h2b : RowAt _ g 83 (civV y m d na nb x3 k) := h2a.set_ (j := 4) (by show 4 < 7; decide) (.int .i64 nb)
  clear hH hK K f4 q4 h1 h2a h3 h4
  intro hH
  try simp only [Act.put]
  iterate 2
    refine plan_take (v := ?_) rfl (by rfl) ?_ ?_
    rotate_left
    · intro w2 hSw
      obtain ⟨c0, c1, c2⟩ := strs3 hSw.1
      rw [HA.out] at c0
      rw [HB.out] at c1
      rw [HC.out] at c2
      clear hSw
      go_simp
      try with_reducible rfl
    try simp only [Act.put, List.setIfInBounds_toArray, List.set_cons_zero, List.set_cons_succ]
  refine plan_move rfl (by rfl) (fun K hK => ?_)
  obtain ⟨h1, _, h3, h4⟩ := hH.out
  have f5 := row_frozen h2b 5 (by show 5 < 7; decide)
  have q5 := h2b.cell (j := 5) rfl
  go_simp
  refine hK.out _ _ (⟨h1.only (Only.setCell g 5 _ _) (Ne.symm hne), ⟨_, _, _, h2b.set_ (j := 5) (by show 5 < 7; decide) _⟩, h3.setCell 5 _, by simpa using h4⟩) ?_
  have h2c : RowAt _ g 83 (civV y m d na nb nc k) := h2b.set_ (j := 5) (by show 5 < 7; decide) (.int .i64 nc)
  clear hH hK K f5 q5 h1 h2b h3 h4
  intro hH
  try simp only [Act.put]
  refine plan_done ?_
  have hsv := hH.out.2.2.1
  clear hH
  generalize (((w3.setCell ⟨g, 3, none⟩ (.int .i64 na)).setCell ⟨g, 4, none⟩ (.int .i64 nb)).setCell ⟨g, 5, none⟩ (.int .i64 nc)) = w5 at *
  obtain ⟨c0, c1, c2, c3, c4, c5, c6⟩ := civ_cells h2c
  have H2 := Lib.hid h2c
  have H3 := Lib.hid hsv
  clear h2c hsv c0 c1 c2 c6
  go_wp2
  all_goals
    go_ret
    refine ⟨ret_bool ?_, H2.out, H3.out⟩
    unfold inTime
    first | done | (simp [*]; done) | (simp; omega)
end Go.Proofs.YtpmidmdodjgeeaaDoor
