/- Walk of date.parts: a form cut into its pieces and read. Condition: the text is shorter than 10^9 octets; the world's shape. (Printed by tools/mkparts.py.) -/
import Derived.Test.YtpmidmdodjgeeaaDoorDat9
namespace Go.Proofs.YtpmidmdodjgeeaaDoor
open Go.RowKit IH
set_option maxRecDepth 100000

def PartsRes (o : Option (Int × DT)) (e : Ending) : Prop := match o with
  | some (k, c) => e = .returned (.tuple #[.agg (civV c.1.1 c.1.2.1 c.1.2.2 c.2.1 c.2.2.1 c.2.2.2 0).toArray, .int .i64 k])
  | none => ∃ y m d h mi se : Int, e = .returned (.tuple #[.agg (civV y m d h mi se 0).toArray, .int .i64 (-1)])
theorem PartsRes.no {o : Option (Int × DT)} (ho : o = none) (y m d h mi se : Int) : PartsRes o (.returned (.tuple #[.agg (civV y m d h mi se 0).toArray, .int .i64 (-1)])) := by subst ho; exact ⟨_, _, _, _, _, _, rfl⟩
theorem PartsRes.yes {o : Option (Int × DT)} {k : Int} {q : DT} (ho : o = some (k, q)) {y m d h mi se : Int} (hq : q = ((y, m, d), (h, mi, se))) : PartsRes o (.returned (.tuple #[.agg (civV y m d h mi se 0).toArray, .int .i64 k])) := by subst ho; subst hq; rfl
def zeroC : Obj := .cells #[.int .i64 0, .int .i64 0, .int .i64 0, .int .i64 0, .int .i64 0, .int .i64 0, .int .i64 0] 83
theorem PartsOut.start {L : List (List UInt8)} {w w2 : World} (hr : RowAt w2 ((w.alloc zeroC).alloc zeroC).heap.size 9 (strsV L)) (hb : Below ((w.alloc zeroC).alloc zeroC).heap.size ((w.alloc zeroC).alloc zeroC) w2) : PartsOut L none w w2 := by
  have hz : ((w.alloc zeroC).alloc zeroC).heap.size = w.heap.size + 2 := by simp
  rw [hz] at hr hb
  exact ⟨hr, ⟨0, 0, 0, 0, 0, 0, (row_new_at (w.alloc zeroC) 83 (civV 0 0 0 0 0 0 0) (w.heap.size + 1) (by simp)).below hb (by omega), fun q hq => by cases hq⟩, ((RowAt.new w 83 (civV 0 0 0 0 0 0 0)).alloc zeroC).below hb (by omega), (((Below.refl _ _).alloc (Nat.le_refl _) _).alloc (by simp) _).trans (hb.mono (by omega))⟩

set_option maxHeartbeats 8000000 in
theorem parts5 (s : ByteArray) (hs : s.size ≤ 1000000000) (a b c d e : List UInt8) (hp : pieces 32 s.data.toList = [a, b, c, d, e]) (w : World) (hsh : w.ShapedOpen Tryd.prog) :
    Calls Tryd.prog 54 #[.string s] w fun e w' => PartsRes (partsL s.data.toList) e ∧ Below w.heap.size w w' := by
  have SP := Lib.hid (fun w hsh => Split1_any s 32 w hsh (by omega))
  have Hsh := Lib.hid hsh; clear hsh
  have hle := pieces_le 32 s.data.toList
  rw [data_len] at hle
  obtain ⟨o, ho⟩ : ∃ o, partsL s.data.toList = o := ⟨_, rfl⟩
  rw [ho]
  have hpl : partsL s.data.toList = (tryDT c b e d).map fun r => (2, r) := by unfold partsL; rw [hp]
  rw [hp] at SP hle
  have lc := hle c (by simp)
  have le_ := hle e (by simp)
  have ld := hle d (by simp)
  have HO := Lib.hid (ho.symm.trans hpl)
  clear hp ho hpl hle
  by_cases h1 : (datedL c b e).isSome = true
  · have D1 := Lib.hid h1
    by_cases h2 : (timedL d).isSome = true
    · have T1 := Lib.hid h2
      obtain ⟨da, ta, hda, hta, htr⟩ := tryDT_some h1 h2
      have HDa := Lib.hid hda; have HTa := Lib.hid hta; have HTr := Lib.hid htr
      clear h1 h2 hda hta htr
      go_enter Tryd.func54, Tryd.ntmps54
      go_upto_region 3 with (go_at_call_of 78 (Value.string s); refine (SP.out _ (shaped_below Hsh.out (((Below.refl _ _).alloc (Nat.le_refl _) _).alloc (by simp) _))).mono ?_; rintro e w2 ⟨rfl, hr2, hb2⟩; have hP := PartsOut.start hr2 hb2; have HP := Lib.hid hP; clear hr2 hb2 hP)
      refine wp_region_plan (fun w' => PartsOut [a, b, c, d, e] none w w') [(0, true), (1, true), (2, true), (3, true), (4, true), (5, true), (6, true), (7, false), (8, true), (9, true), (10, true), (11, true), (12, true), (13, true), (14, true), (15, true), (16, true), (17, true), (18, true), (19, false), (20, true), (21, true), (22, true), (23, true), (24, true), (25, false), (26, true), (27, true)] (by kernel_rfl) (by kernel_rfl) rfl (by kernel_rfl) (HP.out.drewN 1) ?_
      intro w1 hH
      iterate 4
        refine plan_take (v := ?_) rfl (by rfl) ?_ ?_
        rotate_left
        · intro w2 hSw
          clear hSw
          go_simp
          try with_reducible rfl
        try simp only [Act.put, List.setIfInBounds_toArray, List.set_cons_zero, List.set_cons_succ]
      iterate 3
        refine plan_skip rfl (by rfl) ?_
        try simp only [Act.put, List.setIfInBounds_toArray, List.set_cons_zero, List.set_cons_succ]
      refine plan_skipM rfl (by rfl) hH.out ?_
      try simp only [Act.put, List.setIfInBounds_toArray, List.set_cons_zero, List.set_cons_succ]
      iterate 2
        refine plan_take (v := ?_) rfl (by rfl) ?_ ?_
        rotate_left
        · intro w2 hSw
          clear hSw
          go_simp
          try with_reducible rfl
        try simp only [Act.put, List.setIfInBounds_toArray, List.set_cons_zero, List.set_cons_succ]
      iterate 9
        refine plan_skip rfl (by rfl) ?_
        try simp only [Act.put, List.setIfInBounds_toArray, List.set_cons_zero, List.set_cons_succ]
      refine plan_skipM rfl (by rfl) hH.out ?_
      try simp only [Act.put, List.setIfInBounds_toArray, List.set_cons_zero, List.set_cons_succ]
      iterate 2
        refine plan_take (v := ?_) rfl (by rfl) ?_ ?_
        rotate_left
        · intro w2 hSw
          clear hSw
          go_simp
          try with_reducible rfl
        try simp only [Act.put, List.setIfInBounds_toArray, List.set_cons_zero, List.set_cons_succ]
      iterate 3
        refine plan_skip rfl (by rfl) ?_
        try simp only [Act.put, List.setIfInBounds_toArray, List.set_cons_zero, List.set_cons_succ]
      refine plan_skipM rfl (by rfl) hH.out ?_
      try simp only [Act.put, List.setIfInBounds_toArray, List.set_cons_zero, List.set_cons_succ]
      iterate 2
        refine plan_take (v := ?_) rfl (by rfl) ?_ ?_
        rotate_left
        · intro w2 hSw
          clear hSw
          go_simp
          try with_reducible rfl
        try simp only [Act.put, List.setIfInBounds_toArray, List.set_cons_zero, List.set_cons_succ]
      refine plan_done ?_
      have HP := hH; clear hH
      go_upto_region 9 with fail
      refine wp_region_plan (fun w' => PartsOut [a, b, c, d, e] none w w') [(0, true), (1, true), (2, true), (3, true), (4, true), (5, true), (6, true), (7, true), (8, true), (9, true), (10, true), (11, true), (12, true), (13, true), (14, true), (15, true), (16, true), (17, true), (18, true), (19, false), (20, true), (21, true), (22, true), (23, true), (24, true), (25, false), (26, true), (27, true)] (by kernel_rfl) (by kernel_rfl) rfl (by kernel_rfl) (HP.out.drewN 1) ?_
      intro w1 hH
      iterate 4
        refine plan_take (v := ?_) rfl (by rfl) ?_ ?_
        rotate_left
        · intro w2 hSw
          clear hSw
          go_simp
          try with_reducible rfl
        try simp only [Act.put, List.setIfInBounds_toArray, List.set_cons_zero, List.set_cons_succ]
      iterate 4
        refine plan_skip rfl (by rfl) ?_
        try simp only [Act.put, List.setIfInBounds_toArray, List.set_cons_zero, List.set_cons_succ]
      iterate 2
        refine plan_take (v := ?_) rfl (by rfl) ?_ ?_
        rotate_left
        · intro w2 hSw
          clear hSw
          go_simp
          try with_reducible rfl
        try simp only [Act.put, List.setIfInBounds_toArray, List.set_cons_zero, List.set_cons_succ]
      iterate 9
        refine plan_skip rfl (by rfl) ?_
        try simp only [Act.put, List.setIfInBounds_toArray, List.set_cons_zero, List.set_cons_succ]
      refine plan_skipM rfl (by rfl) hH.out ?_
      try simp only [Act.put, List.setIfInBounds_toArray, List.set_cons_zero, List.set_cons_succ]
      iterate 2
        refine plan_take (v := ?_) rfl (by rfl) ?_ ?_
        rotate_left
        · intro w2 hSw
          clear hSw
          go_simp
          try with_reducible rfl
        try simp only [Act.put, List.setIfInBounds_toArray, List.set_cons_zero, List.set_cons_succ]
      iterate 3
        refine plan_skip rfl (by rfl) ?_
        try simp only [Act.put, List.setIfInBounds_toArray, List.set_cons_zero, List.set_cons_succ]
      refine plan_skipM rfl (by rfl) hH.out ?_
      try simp only [Act.put, List.setIfInBounds_toArray, List.set_cons_zero, List.set_cons_succ]
      iterate 2
        refine plan_take (v := ?_) rfl (by rfl) ?_ ?_
        rotate_left
        · intro w2 hSw
          clear hSw
          go_simp
          try with_reducible rfl
        try simp only [Act.put, List.setIfInBounds_toArray, List.set_cons_zero, List.set_cons_succ]
      refine plan_done ?_
      have HP := hH; clear hH
      go_upto_region 11 with fail
      refine wp_region_plan (fun w' => PartsOut [a, b, c, d, e] none w w') [(0, true), (1, true), (2, true), (3, true), (4, true), (5, true), (6, true), (7, true), (8, true), (9, true), (10, true), (11, true), (12, true), (13, false), (14, true), (15, true), (16, true), (17, true), (18, true), (19, false), (20, true), (21, true)] (by kernel_rfl) (by kernel_rfl) rfl (by kernel_rfl) (HP.out.drewN 1) ?_
      intro w1 hH
      iterate 13
        refine plan_take (v := ?_) rfl (by rfl) ?_ ?_
        rotate_left
        · intro w2 hSw
          have s0 := strsV_cells hSw.1 0 rfl
          have s1 := strsV_cells hSw.1 1 rfl
          have s2 := strsV_cells hSw.1 2 rfl
          have s3 := strsV_cells hSw.1 3 rfl
          have s4 := strsV_cells hSw.1 4 rfl
          clear hSw
          go_simp
          try with_reducible rfl
        try simp only [Act.put, List.setIfInBounds_toArray, List.set_cons_zero, List.set_cons_succ]
      refine plan_move rfl (by rfl) (fun K hK => ?_)
      go_simp
      obtain ⟨_, ⟨y1, m1, e1, h1, i1, s1, p2, _⟩, _, p5⟩ := hH.out
      have C := Lib.hid (dated_spec c b e (w.heap.size + 1) y1 m1 e1 h1 i1 s1 0 _ (shaped_below Hsh.out p5) (by omega) (by omega) p2)
      (refine C.out.mono ?_)
      rintro e w3 ⟨rfl, ⟨y2, m2, e2, p6, p7⟩, p8⟩
      rw [D1.out]
      refine hK.out _ _ (hH.out.civ p8 p6 (fun q hq => by cases hq)) ?_
      have P6 := Lib.hid p6
      have P7 := Lib.hid p7
      clear hH hK K p6 p7 p8 C p2
      intro hH
      try simp only [Act.put, List.setIfInBounds_toArray, List.set_cons_zero, List.set_cons_succ]
      iterate 5
        refine plan_take (v := ?_) rfl (by rfl) ?_ ?_
        rotate_left
        · intro w2 hSw
          have s0 := strsV_cells hSw.1 0 rfl
          have s1 := strsV_cells hSw.1 1 rfl
          have s2 := strsV_cells hSw.1 2 rfl
          have s3 := strsV_cells hSw.1 3 rfl
          have s4 := strsV_cells hSw.1 4 rfl
          clear hSw
          go_simp
          try with_reducible rfl
        try simp only [Act.put, List.setIfInBounds_toArray, List.set_cons_zero, List.set_cons_succ]
      refine plan_move rfl (by rfl) (fun K hK => ?_)
      go_simp
      have C := Lib.hid (timed_spec d (w.heap.size + 1) y2 m2 e2 h1 i1 s1 0 _ (shaped_below Hsh.out hH.out.2.2.2) (by omega) P6.out)
      (refine C.out.mono ?_)
      rintro e w4 ⟨rfl, ⟨h3, i3, s3, p6, p7⟩, p8⟩
      rw [T1.out]
      refine hK.out _ _ (hH.out.civ p8 p6 (fun q hq => by cases hq)) ?_
      have HQ := Lib.hid (hH.out.civ (r' := some (da, ta)) p8 p6 (fun q hq => by rw [← Option.some.inj hq, P7.out _ HDa.out, p7 _ HTa.out]))
      clear hH hK K p6 p7 p8 C
      intro hH
      try simp only [Act.put, List.setIfInBounds_toArray, List.set_cons_zero, List.set_cons_succ]
      iterate 2
        refine plan_take (v := ?_) rfl (by rfl) ?_ ?_
        rotate_left
        · intro w2 hSw
          have s0 := strsV_cells hSw.1 0 rfl
          have s1 := strsV_cells hSw.1 1 rfl
          have s2 := strsV_cells hSw.1 2 rfl
          have s3 := strsV_cells hSw.1 3 rfl
          have s4 := strsV_cells hSw.1 4 rfl
          clear hSw
          go_simp
          try with_reducible rfl
        try simp only [Act.put, List.setIfInBounds_toArray, List.set_cons_zero, List.set_cons_succ]
      refine plan_done ?_
      have HP := hH; clear hH
      clear HP; have HP := HQ; clear HQ
      obtain ⟨p1, ⟨fy, fm, fd, fh, fi, fs, p2, p3⟩, p4, p5⟩ := HP.out
      obtain ⟨c0, c1, c2, c3, c4, c5, c6⟩ := civ_cells p2
      have P1 := Lib.hid p1; have P3 := Lib.hid p3; have P2 := Lib.hid p2
      have hone : ∀ v ∈ civV fy fm fd fh fi fs 0, v.oneCell' = true := by simp [civV, Value.oneCell']
      have Hone := Lib.hid hone
      clear p1 p2 p3 hone
      go_wp2_with (refine wpList_store_row rfl 83 _ _ rfl w.heap.size 83 (civV fy fm fd fh fi fs 0) _ (by rfl) (by rfl) p4 rfl (by kernel_rfl) Hone.out ?_; intro w9 h5 h6)
      have hbel := h6.below p5 (Nat.le_refl _)
      obtain ⟨d0, d1, d2, d3, d4, d5, d6⟩ := civ_cells h5
      exact bodyPost_ret (v := .tuple #[.agg (civV fy fm fd fh fi fs 0).toArray, .int .i64 2]) (by simp [results, Tryd.results54, go_sem, civV, d0, d1, d2, d3, d4, d5, d6]) rfl ⟨PartsRes.yes (by rw [HO.out, HTr.out]; rfl) (P3.out _ rfl), hbel⟩
    · have h2' : (timedL d).isSome = false := by simpa using h2
      have T1 := Lib.hid h2'
      have HTr := Lib.hid (tryDT_none (d := c) (m := b) (y := e) (t := d) (.inr h2'))
      clear h1 h2 h2'
      go_enter Tryd.func54, Tryd.ntmps54
      go_upto_region 3 with (go_at_call_of 78 (Value.string s); refine (SP.out _ (shaped_below Hsh.out (((Below.refl _ _).alloc (Nat.le_refl _) _).alloc (by simp) _))).mono ?_; rintro e w2 ⟨rfl, hr2, hb2⟩; have hP := PartsOut.start hr2 hb2; have HP := Lib.hid hP; clear hr2 hb2 hP)
      refine wp_region_plan (fun w' => PartsOut [a, b, c, d, e] none w w') [(0, true), (1, true), (2, true), (3, true), (4, true), (5, true), (6, true), (7, false), (8, true), (9, true), (10, true), (11, true), (12, true), (13, true), (14, true), (15, true), (16, true), (17, true), (18, true), (19, false), (20, true), (21, true), (22, true), (23, true), (24, true), (25, false), (26, true), (27, true)] (by kernel_rfl) (by kernel_rfl) rfl (by kernel_rfl) (HP.out.drewN 1) ?_
      intro w1 hH
      iterate 4
        refine plan_take (v := ?_) rfl (by rfl) ?_ ?_
        rotate_left
        · intro w2 hSw
          clear hSw
          go_simp
          try with_reducible rfl
        try simp only [Act.put, List.setIfInBounds_toArray, List.set_cons_zero, List.set_cons_succ]
      iterate 3
        refine plan_skip rfl (by rfl) ?_
        try simp only [Act.put, List.setIfInBounds_toArray, List.set_cons_zero, List.set_cons_succ]
      refine plan_skipM rfl (by rfl) hH.out ?_
      try simp only [Act.put, List.setIfInBounds_toArray, List.set_cons_zero, List.set_cons_succ]
      iterate 2
        refine plan_take (v := ?_) rfl (by rfl) ?_ ?_
        rotate_left
        · intro w2 hSw
          clear hSw
          go_simp
          try with_reducible rfl
        try simp only [Act.put, List.setIfInBounds_toArray, List.set_cons_zero, List.set_cons_succ]
      iterate 9
        refine plan_skip rfl (by rfl) ?_
        try simp only [Act.put, List.setIfInBounds_toArray, List.set_cons_zero, List.set_cons_succ]
      refine plan_skipM rfl (by rfl) hH.out ?_
      try simp only [Act.put, List.setIfInBounds_toArray, List.set_cons_zero, List.set_cons_succ]
      iterate 2
        refine plan_take (v := ?_) rfl (by rfl) ?_ ?_
        rotate_left
        · intro w2 hSw
          clear hSw
          go_simp
          try with_reducible rfl
        try simp only [Act.put, List.setIfInBounds_toArray, List.set_cons_zero, List.set_cons_succ]
      iterate 3
        refine plan_skip rfl (by rfl) ?_
        try simp only [Act.put, List.setIfInBounds_toArray, List.set_cons_zero, List.set_cons_succ]
      refine plan_skipM rfl (by rfl) hH.out ?_
      try simp only [Act.put, List.setIfInBounds_toArray, List.set_cons_zero, List.set_cons_succ]
      iterate 2
        refine plan_take (v := ?_) rfl (by rfl) ?_ ?_
        rotate_left
        · intro w2 hSw
          clear hSw
          go_simp
          try with_reducible rfl
        try simp only [Act.put, List.setIfInBounds_toArray, List.set_cons_zero, List.set_cons_succ]
      refine plan_done ?_
      have HP := hH; clear hH
      go_upto_region 9 with fail
      refine wp_region_plan (fun w' => PartsOut [a, b, c, d, e] none w w') [(0, true), (1, true), (2, true), (3, true), (4, true), (5, true), (6, true), (7, true), (8, true), (9, true), (10, true), (11, true), (12, true), (13, true), (14, true), (15, true), (16, true), (17, true), (18, true), (19, false), (20, true), (21, true), (22, true), (23, true), (24, true), (25, false), (26, true), (27, true)] (by kernel_rfl) (by kernel_rfl) rfl (by kernel_rfl) (HP.out.drewN 1) ?_
      intro w1 hH
      iterate 4
        refine plan_take (v := ?_) rfl (by rfl) ?_ ?_
        rotate_left
        · intro w2 hSw
          clear hSw
          go_simp
          try with_reducible rfl
        try simp only [Act.put, List.setIfInBounds_toArray, List.set_cons_zero, List.set_cons_succ]
      iterate 4
        refine plan_skip rfl (by rfl) ?_
        try simp only [Act.put, List.setIfInBounds_toArray, List.set_cons_zero, List.set_cons_succ]
      iterate 2
        refine plan_take (v := ?_) rfl (by rfl) ?_ ?_
        rotate_left
        · intro w2 hSw
          clear hSw
          go_simp
          try with_reducible rfl
        try simp only [Act.put, List.setIfInBounds_toArray, List.set_cons_zero, List.set_cons_succ]
      iterate 9
        refine plan_skip rfl (by rfl) ?_
        try simp only [Act.put, List.setIfInBounds_toArray, List.set_cons_zero, List.set_cons_succ]
      refine plan_skipM rfl (by rfl) hH.out ?_
      try simp only [Act.put, List.setIfInBounds_toArray, List.set_cons_zero, List.set_cons_succ]
      iterate 2
        refine plan_take (v := ?_) rfl (by rfl) ?_ ?_
        rotate_left
        · intro w2 hSw
          clear hSw
          go_simp
          try with_reducible rfl
        try simp only [Act.put, List.setIfInBounds_toArray, List.set_cons_zero, List.set_cons_succ]
      iterate 3
        refine plan_skip rfl (by rfl) ?_
        try simp only [Act.put, List.setIfInBounds_toArray, List.set_cons_zero, List.set_cons_succ]
      refine plan_skipM rfl (by rfl) hH.out ?_
      try simp only [Act.put, List.setIfInBounds_toArray, List.set_cons_zero, List.set_cons_succ]
      iterate 2
        refine plan_take (v := ?_) rfl (by rfl) ?_ ?_
        rotate_left
        · intro w2 hSw
          clear hSw
          go_simp
          try with_reducible rfl
        try simp only [Act.put, List.setIfInBounds_toArray, List.set_cons_zero, List.set_cons_succ]
      refine plan_done ?_
      have HP := hH; clear hH
      go_upto_region 11 with fail
      refine wp_region_plan (fun w' => PartsOut [a, b, c, d, e] none w w') [(0, true), (1, true), (2, true), (3, true), (4, true), (5, true), (6, true), (7, true), (8, true), (9, true), (10, true), (11, true), (12, true), (13, false), (14, true), (15, true), (16, true), (17, true), (18, true), (19, false), (20, true), (21, true)] (by kernel_rfl) (by kernel_rfl) rfl (by kernel_rfl) (HP.out.drewN 1) ?_
      intro w1 hH
      iterate 13
        refine plan_take (v := ?_) rfl (by rfl) ?_ ?_
        rotate_left
        · intro w2 hSw
          have s0 := strsV_cells hSw.1 0 rfl
          have s1 := strsV_cells hSw.1 1 rfl
          have s2 := strsV_cells hSw.1 2 rfl
          have s3 := strsV_cells hSw.1 3 rfl
          have s4 := strsV_cells hSw.1 4 rfl
          clear hSw
          go_simp
          try with_reducible rfl
        try simp only [Act.put, List.setIfInBounds_toArray, List.set_cons_zero, List.set_cons_succ]
      refine plan_move rfl (by rfl) (fun K hK => ?_)
      go_simp
      obtain ⟨_, ⟨y1, m1, e1, h1, i1, s1, p2, _⟩, _, p5⟩ := hH.out
      have C := Lib.hid (dated_spec c b e (w.heap.size + 1) y1 m1 e1 h1 i1 s1 0 _ (shaped_below Hsh.out p5) (by omega) (by omega) p2)
      (refine C.out.mono ?_)
      rintro e w3 ⟨rfl, ⟨y2, m2, e2, p6, p7⟩, p8⟩
      rw [D1.out]
      refine hK.out _ _ (hH.out.civ p8 p6 (fun q hq => by cases hq)) ?_
      have P6 := Lib.hid p6
      have P7 := Lib.hid p7
      clear hH hK K p6 p7 p8 C p2
      intro hH
      try simp only [Act.put, List.setIfInBounds_toArray, List.set_cons_zero, List.set_cons_succ]
      iterate 5
        refine plan_take (v := ?_) rfl (by rfl) ?_ ?_
        rotate_left
        · intro w2 hSw
          have s0 := strsV_cells hSw.1 0 rfl
          have s1 := strsV_cells hSw.1 1 rfl
          have s2 := strsV_cells hSw.1 2 rfl
          have s3 := strsV_cells hSw.1 3 rfl
          have s4 := strsV_cells hSw.1 4 rfl
          clear hSw
          go_simp
          try with_reducible rfl
        try simp only [Act.put, List.setIfInBounds_toArray, List.set_cons_zero, List.set_cons_succ]
      refine plan_move rfl (by rfl) (fun K hK => ?_)
      go_simp
      have C := Lib.hid (timed_spec d (w.heap.size + 1) y2 m2 e2 h1 i1 s1 0 _ (shaped_below Hsh.out hH.out.2.2.2) (by omega) P6.out)
      (refine C.out.mono ?_)
      rintro e w4 ⟨rfl, ⟨h3, i3, s3, p6, p7⟩, p8⟩
      rw [T1.out]
      refine hK.out _ _ (hH.out.civ p8 p6 (fun q hq => by cases hq)) ?_
      clear hH hK K p6 p7 p8 C
      intro hH
      try simp only [Act.put, List.setIfInBounds_toArray, List.set_cons_zero, List.set_cons_succ]
      iterate 2
        refine plan_take (v := ?_) rfl (by rfl) ?_ ?_
        rotate_left
        · intro w2 hSw
          have s0 := strsV_cells hSw.1 0 rfl
          have s1 := strsV_cells hSw.1 1 rfl
          have s2 := strsV_cells hSw.1 2 rfl
          have s3 := strsV_cells hSw.1 3 rfl
          have s4 := strsV_cells hSw.1 4 rfl
          clear hSw
          go_simp
          try with_reducible rfl
        try simp only [Act.put, List.setIfInBounds_toArray, List.set_cons_zero, List.set_cons_succ]
      refine plan_done ?_
      have HP := hH; clear hH
      obtain ⟨p1, ⟨fy, fm, fd, fh, fi, fs, p2, p3⟩, p4, p5⟩ := HP.out
      obtain ⟨c0, c1, c2, c3, c4, c5, c6⟩ := civ_cells p2
      have P1 := Lib.hid p1; have P3 := Lib.hid p3; have P2 := Lib.hid p2
      have hone : ∀ v ∈ civV fy fm fd fh fi fs 0, v.oneCell' = true := by simp [civV, Value.oneCell']
      have Hone := Lib.hid hone
      clear p1 p2 p3 hone
      go_wp2_with (refine wpList_store_row rfl 83 _ _ rfl w.heap.size 83 (civV fy fm fd fh fi fs 0) _ (by rfl) (by rfl) p4 rfl (by kernel_rfl) Hone.out ?_; intro w9 h5 h6)
      have hbel := h6.below p5 (Nat.le_refl _)
      obtain ⟨d0, d1, d2, d3, d4, d5, d6⟩ := civ_cells h5
      exact bodyPost_ret (v := .tuple #[.agg (civV fy fm fd fh fi fs 0).toArray, .int .i64 (-1)]) (by simp [results, Tryd.results54, go_sem, civV, d0, d1, d2, d3, d4, d5, d6]) rfl ⟨PartsRes.no (by rw [HO.out, HTr.out]; rfl) _ _ _ _ _ _, hbel⟩
  · have h1' : (datedL c b e).isSome = false := by simpa using h1
    have D1 := Lib.hid h1'
    have HTr := Lib.hid (tryDT_none (d := c) (m := b) (y := e) (t := d) (.inl h1'))
    clear h1 h1'
    go_enter Tryd.func54, Tryd.ntmps54
    go_upto_region 3 with (go_at_call_of 78 (Value.string s); refine (SP.out _ (shaped_below Hsh.out (((Below.refl _ _).alloc (Nat.le_refl _) _).alloc (by simp) _))).mono ?_; rintro e w2 ⟨rfl, hr2, hb2⟩; have hP := PartsOut.start hr2 hb2; have HP := Lib.hid hP; clear hr2 hb2 hP)
    refine wp_region_plan (fun w' => PartsOut [a, b, c, d, e] none w w') [(0, true), (1, true), (2, true), (3, true), (4, true), (5, true), (6, true), (7, false), (8, true), (9, true), (10, true), (11, true), (12, true), (13, true), (14, true), (15, true), (16, true), (17, true), (18, true), (19, false), (20, true), (21, true), (22, true), (23, true), (24, true), (25, false), (26, true), (27, true)] (by kernel_rfl) (by kernel_rfl) rfl (by kernel_rfl) (HP.out.drewN 1) ?_
    intro w1 hH
    iterate 4
      refine plan_take (v := ?_) rfl (by rfl) ?_ ?_
      rotate_left
      · intro w2 hSw
        clear hSw
        go_simp
        try with_reducible rfl
      try simp only [Act.put, List.setIfInBounds_toArray, List.set_cons_zero, List.set_cons_succ]
    iterate 3
      refine plan_skip rfl (by rfl) ?_
      try simp only [Act.put, List.setIfInBounds_toArray, List.set_cons_zero, List.set_cons_succ]
    refine plan_skipM rfl (by rfl) hH.out ?_
    try simp only [Act.put, List.setIfInBounds_toArray, List.set_cons_zero, List.set_cons_succ]
    iterate 2
      refine plan_take (v := ?_) rfl (by rfl) ?_ ?_
      rotate_left
      · intro w2 hSw
        clear hSw
        go_simp
        try with_reducible rfl
      try simp only [Act.put, List.setIfInBounds_toArray, List.set_cons_zero, List.set_cons_succ]
    iterate 9
      refine plan_skip rfl (by rfl) ?_
      try simp only [Act.put, List.setIfInBounds_toArray, List.set_cons_zero, List.set_cons_succ]
    refine plan_skipM rfl (by rfl) hH.out ?_
    try simp only [Act.put, List.setIfInBounds_toArray, List.set_cons_zero, List.set_cons_succ]
    iterate 2
      refine plan_take (v := ?_) rfl (by rfl) ?_ ?_
      rotate_left
      · intro w2 hSw
        clear hSw
        go_simp
        try with_reducible rfl
      try simp only [Act.put, List.setIfInBounds_toArray, List.set_cons_zero, List.set_cons_succ]
    iterate 3
      refine plan_skip rfl (by rfl) ?_
      try simp only [Act.put, List.setIfInBounds_toArray, List.set_cons_zero, List.set_cons_succ]
    refine plan_skipM rfl (by rfl) hH.out ?_
    try simp only [Act.put, List.setIfInBounds_toArray, List.set_cons_zero, List.set_cons_succ]
    iterate 2
      refine plan_take (v := ?_) rfl (by rfl) ?_ ?_
      rotate_left
      · intro w2 hSw
        clear hSw
        go_simp
        try with_reducible rfl
      try simp only [Act.put, List.setIfInBounds_toArray, List.set_cons_zero, List.set_cons_succ]
    refine plan_done ?_
    have HP := hH; clear hH
    go_upto_region 9 with fail
    refine wp_region_plan (fun w' => PartsOut [a, b, c, d, e] none w w') [(0, true), (1, true), (2, true), (3, true), (4, true), (5, true), (6, true), (7, true), (8, true), (9, true), (10, true), (11, true), (12, true), (13, true), (14, true), (15, true), (16, true), (17, true), (18, true), (19, false), (20, true), (21, true), (22, true), (23, true), (24, true), (25, false), (26, true), (27, true)] (by kernel_rfl) (by kernel_rfl) rfl (by kernel_rfl) (HP.out.drewN 1) ?_
    intro w1 hH
    iterate 4
      refine plan_take (v := ?_) rfl (by rfl) ?_ ?_
      rotate_left
      · intro w2 hSw
        clear hSw
        go_simp
        try with_reducible rfl
      try simp only [Act.put, List.setIfInBounds_toArray, List.set_cons_zero, List.set_cons_succ]
    iterate 4
      refine plan_skip rfl (by rfl) ?_
      try simp only [Act.put, List.setIfInBounds_toArray, List.set_cons_zero, List.set_cons_succ]
    iterate 2
      refine plan_take (v := ?_) rfl (by rfl) ?_ ?_
      rotate_left
      · intro w2 hSw
        clear hSw
        go_simp
        try with_reducible rfl
      try simp only [Act.put, List.setIfInBounds_toArray, List.set_cons_zero, List.set_cons_succ]
    iterate 9
      refine plan_skip rfl (by rfl) ?_
      try simp only [Act.put, List.setIfInBounds_toArray, List.set_cons_zero, List.set_cons_succ]
    refine plan_skipM rfl (by rfl) hH.out ?_
    try simp only [Act.put, List.setIfInBounds_toArray, List.set_cons_zero, List.set_cons_succ]
    iterate 2
      refine plan_take (v := ?_) rfl (by rfl) ?_ ?_
      rotate_left
      · intro w2 hSw
        clear hSw
        go_simp
        try with_reducible rfl
      try simp only [Act.put, List.setIfInBounds_toArray, List.set_cons_zero, List.set_cons_succ]
    iterate 3
      refine plan_skip rfl (by rfl) ?_
      try simp only [Act.put, List.setIfInBounds_toArray, List.set_cons_zero, List.set_cons_succ]
    refine plan_skipM rfl (by rfl) hH.out ?_
    try simp only [Act.put, List.setIfInBounds_toArray, List.set_cons_zero, List.set_cons_succ]
    iterate 2
      refine plan_take (v := ?_) rfl (by rfl) ?_ ?_
      rotate_left
      · intro w2 hSw
        clear hSw
        go_simp
        try with_reducible rfl
      try simp only [Act.put, List.setIfInBounds_toArray, List.set_cons_zero, List.set_cons_succ]
    refine plan_done ?_
    have HP := hH; clear hH
    go_upto_region 11 with fail
    refine wp_region_plan (fun w' => PartsOut [a, b, c, d, e] none w w') [(0, true), (1, true), (2, true), (3, true), (4, true), (5, true), (6, true), (7, true), (8, true), (9, true), (10, true), (11, true), (12, true), (13, false), (14, true), (15, true), (16, true), (17, true), (18, true), (19, false), (20, true), (21, true)] (by kernel_rfl) (by kernel_rfl) rfl (by kernel_rfl) (HP.out.drewN 1) ?_
    intro w1 hH
    iterate 13
      refine plan_take (v := ?_) rfl (by rfl) ?_ ?_
      rotate_left
      · intro w2 hSw
        have s0 := strsV_cells hSw.1 0 rfl
        have s1 := strsV_cells hSw.1 1 rfl
        have s2 := strsV_cells hSw.1 2 rfl
        have s3 := strsV_cells hSw.1 3 rfl
        have s4 := strsV_cells hSw.1 4 rfl
        clear hSw
        go_simp
        try with_reducible rfl
      try simp only [Act.put, List.setIfInBounds_toArray, List.set_cons_zero, List.set_cons_succ]
    refine plan_move rfl (by rfl) (fun K hK => ?_)
    go_simp
    obtain ⟨_, ⟨y1, m1, e1, h1, i1, s1, p2, _⟩, _, p5⟩ := hH.out
    have C := Lib.hid (dated_spec c b e (w.heap.size + 1) y1 m1 e1 h1 i1 s1 0 _ (shaped_below Hsh.out p5) (by omega) (by omega) p2)
    (refine C.out.mono ?_)
    rintro e w3 ⟨rfl, ⟨y2, m2, e2, p6, p7⟩, p8⟩
    rw [D1.out]
    refine hK.out _ _ (hH.out.civ p8 p6 (fun q hq => by cases hq)) ?_
    have P6 := Lib.hid p6
    have P7 := Lib.hid p7
    clear hH hK K p6 p7 p8 C p2
    intro hH
    try simp only [Act.put, List.setIfInBounds_toArray, List.set_cons_zero, List.set_cons_succ]
    iterate 2
      refine plan_take (v := ?_) rfl (by rfl) ?_ ?_
      rotate_left
      · intro w2 hSw
        have s0 := strsV_cells hSw.1 0 rfl
        have s1 := strsV_cells hSw.1 1 rfl
        have s2 := strsV_cells hSw.1 2 rfl
        have s3 := strsV_cells hSw.1 3 rfl
        have s4 := strsV_cells hSw.1 4 rfl
        clear hSw
        go_simp
        try with_reducible rfl
      try simp only [Act.put, List.setIfInBounds_toArray, List.set_cons_zero, List.set_cons_succ]
    iterate 3
      refine plan_skip rfl (by rfl) ?_
      try simp only [Act.put, List.setIfInBounds_toArray, List.set_cons_zero, List.set_cons_succ]
    refine plan_skipM rfl (by rfl) hH.out ?_
    try simp only [Act.put, List.setIfInBounds_toArray, List.set_cons_zero, List.set_cons_succ]
    iterate 2
      refine plan_take (v := ?_) rfl (by rfl) ?_ ?_
      rotate_left
      · intro w2 hSw
        have s0 := strsV_cells hSw.1 0 rfl
        have s1 := strsV_cells hSw.1 1 rfl
        have s2 := strsV_cells hSw.1 2 rfl
        have s3 := strsV_cells hSw.1 3 rfl
        have s4 := strsV_cells hSw.1 4 rfl
        clear hSw
        go_simp
        try with_reducible rfl
      try simp only [Act.put, List.setIfInBounds_toArray, List.set_cons_zero, List.set_cons_succ]
    refine plan_done ?_
    have HP := hH; clear hH
    obtain ⟨p1, ⟨fy, fm, fd, fh, fi, fs, p2, p3⟩, p4, p5⟩ := HP.out
    obtain ⟨c0, c1, c2, c3, c4, c5, c6⟩ := civ_cells p2
    have P1 := Lib.hid p1; have P3 := Lib.hid p3; have P2 := Lib.hid p2
    have hone : ∀ v ∈ civV fy fm fd fh fi fs 0, v.oneCell' = true := by simp [civV, Value.oneCell']
    have Hone := Lib.hid hone
    clear p1 p2 p3 hone
    go_wp2_with (refine wpList_store_row rfl 83 _ _ rfl w.heap.size 83 (civV fy fm fd fh fi fs 0) _ (by rfl) (by rfl) p4 rfl (by kernel_rfl) Hone.out ?_; intro w9 h5 h6)
    have hbel := h6.below p5 (Nat.le_refl _)
    obtain ⟨d0, d1, d2, d3, d4, d5, d6⟩ := civ_cells h5
    exact bodyPost_ret (v := .tuple #[.agg (civV fy fm fd fh fi fs 0).toArray, .int .i64 (-1)]) (by simp [results, Tryd.results54, go_sem, civV, d0, d1, d2, d3, d4, d5, d6]) rfl ⟨PartsRes.no (by rw [HO.out, HTr.out]; rfl) _ _ _ _ _ _, hbel⟩
set_option maxHeartbeats 8000000 in
theorem parts0 (s : ByteArray) (hs : s.size ≤ 1000000000) (hn4 : (pieces 32 s.data.toList).length ≠ 4) (hn5 : (pieces 32 s.data.toList).length ≠ 5) (hn6 : (pieces 32 s.data.toList).length ≠ 6) (w : World) (hsh : w.ShapedOpen Tryd.prog) :
    Calls Tryd.prog 54 #[.string s] w fun e w' => PartsRes (partsL s.data.toList) e ∧ Below w.heap.size w w' := by
  have SP := Lib.hid (fun w hsh => Split1_any s 32 w hsh (by omega))
  have Hsh := Lib.hid hsh; clear hsh
  have hle := pieces_le 32 s.data.toList
  rw [data_len] at hle
  obtain ⟨o, ho⟩ : ∃ o, partsL s.data.toList = o := ⟨_, rfl⟩
  rw [ho]
  have hpl : partsL s.data.toList = none := by
    unfold partsL
    split
    · rename_i hp; exact absurd (by rw [hp]; rfl) hn4
    · rename_i hp; exact absurd (by rw [hp]; rfl) hn5
    · rename_i hp; exact absurd (by rw [hp]; rfl) hn6
    · rfl
  have HO := Lib.hid (ho.symm.trans hpl)
  generalize pieces 32 s.data.toList = L at *
  have b4 : ((L.length : Int) == 4) = false := by rw [beq_eq_false_iff_ne]; omega
  have b5 : ((L.length : Int) == 5) = false := by rw [beq_eq_false_iff_ne]; omega
  have b6 : ((L.length : Int) == 6) = false := by rw [beq_eq_false_iff_ne]; omega
  clear ho hpl hle hn4 hn5 hn6
  go_enter Tryd.func54, Tryd.ntmps54
  go_upto_region 3 with (go_at_call_of 78 (Value.string s); refine (SP.out _ (shaped_below Hsh.out (((Below.refl _ _).alloc (Nat.le_refl _) _).alloc (by simp) _))).mono ?_; rintro e w2 ⟨rfl, hr2, hb2⟩; have hP := PartsOut.start hr2 hb2; have HP := Lib.hid hP; clear hr2 hb2 hP)
  refine wp_region_plan (fun w' => PartsOut L none w w') [(0, true), (1, true), (2, true), (3, true), (4, true), (5, true), (6, true), (7, false), (8, true), (9, true), (10, true), (11, true), (12, true), (13, true), (14, true), (15, true), (16, true), (17, true), (18, true), (19, false), (20, true), (21, true), (22, true), (23, true), (24, true), (25, false), (26, true), (27, true)] (by kernel_rfl) (by kernel_rfl) rfl (by kernel_rfl) (HP.out.drewN 1) ?_
  intro w1 hH
  iterate 4
    refine plan_take (v := ?_) rfl (by rfl) ?_ ?_
    rotate_left
    · intro w2 hSw
      clear hSw
      go_simp
      try with_reducible rfl
    try simp only [Act.put, List.setIfInBounds_toArray, List.set_cons_zero, List.set_cons_succ]
  iterate 3
    refine plan_skip rfl (by rfl) ?_
    try simp only [Act.put, List.setIfInBounds_toArray, List.set_cons_zero, List.set_cons_succ]
  refine plan_skipM rfl (by rfl) hH.out ?_
  try simp only [Act.put, List.setIfInBounds_toArray, List.set_cons_zero, List.set_cons_succ]
  iterate 2
    refine plan_take (v := ?_) rfl (by rfl) ?_ ?_
    rotate_left
    · intro w2 hSw
      clear hSw
      go_simp
      try with_reducible rfl
    try simp only [Act.put, List.setIfInBounds_toArray, List.set_cons_zero, List.set_cons_succ]
  iterate 9
    refine plan_skip rfl (by rfl) ?_
    try simp only [Act.put, List.setIfInBounds_toArray, List.set_cons_zero, List.set_cons_succ]
  refine plan_skipM rfl (by rfl) hH.out ?_
  try simp only [Act.put, List.setIfInBounds_toArray, List.set_cons_zero, List.set_cons_succ]
  iterate 2
    refine plan_take (v := ?_) rfl (by rfl) ?_ ?_
    rotate_left
    · intro w2 hSw
      clear hSw
      go_simp
      try with_reducible rfl
    try simp only [Act.put, List.setIfInBounds_toArray, List.set_cons_zero, List.set_cons_succ]
  iterate 3
    refine plan_skip rfl (by rfl) ?_
    try simp only [Act.put, List.setIfInBounds_toArray, List.set_cons_zero, List.set_cons_succ]
  refine plan_skipM rfl (by rfl) hH.out ?_
  try simp only [Act.put, List.setIfInBounds_toArray, List.set_cons_zero, List.set_cons_succ]
  iterate 2
    refine plan_take (v := ?_) rfl (by rfl) ?_ ?_
    rotate_left
    · intro w2 hSw
      clear hSw
      go_simp
      try with_reducible rfl
    try simp only [Act.put, List.setIfInBounds_toArray, List.set_cons_zero, List.set_cons_succ]
  refine plan_done ?_
  have HP := hH; clear hH
  go_upto_region 9 with fail
  refine wp_region_plan (fun w' => PartsOut L none w w') [(0, true), (1, true), (2, true), (3, true), (4, true), (5, true), (6, true), (7, true), (8, true), (9, true), (10, true), (11, true), (12, true), (13, true), (14, true), (15, true), (16, true), (17, true), (18, true), (19, false), (20, true), (21, true), (22, true), (23, true), (24, true), (25, false), (26, true), (27, true)] (by kernel_rfl) (by kernel_rfl) rfl (by kernel_rfl) (HP.out.drewN 1) ?_
  intro w1 hH
  iterate 4
    refine plan_take (v := ?_) rfl (by rfl) ?_ ?_
    rotate_left
    · intro w2 hSw
      clear hSw
      go_simp
      try with_reducible rfl
    try simp only [Act.put, List.setIfInBounds_toArray, List.set_cons_zero, List.set_cons_succ]
  iterate 4
    refine plan_skip rfl (by rfl) ?_
    try simp only [Act.put, List.setIfInBounds_toArray, List.set_cons_zero, List.set_cons_succ]
  iterate 2
    refine plan_take (v := ?_) rfl (by rfl) ?_ ?_
    rotate_left
    · intro w2 hSw
      clear hSw
      go_simp
      try with_reducible rfl
    try simp only [Act.put, List.setIfInBounds_toArray, List.set_cons_zero, List.set_cons_succ]
  iterate 9
    refine plan_skip rfl (by rfl) ?_
    try simp only [Act.put, List.setIfInBounds_toArray, List.set_cons_zero, List.set_cons_succ]
  refine plan_skipM rfl (by rfl) hH.out ?_
  try simp only [Act.put, List.setIfInBounds_toArray, List.set_cons_zero, List.set_cons_succ]
  iterate 2
    refine plan_take (v := ?_) rfl (by rfl) ?_ ?_
    rotate_left
    · intro w2 hSw
      clear hSw
      go_simp
      try with_reducible rfl
    try simp only [Act.put, List.setIfInBounds_toArray, List.set_cons_zero, List.set_cons_succ]
  iterate 3
    refine plan_skip rfl (by rfl) ?_
    try simp only [Act.put, List.setIfInBounds_toArray, List.set_cons_zero, List.set_cons_succ]
  refine plan_skipM rfl (by rfl) hH.out ?_
  try simp only [Act.put, List.setIfInBounds_toArray, List.set_cons_zero, List.set_cons_succ]
  iterate 2
    refine plan_take (v := ?_) rfl (by rfl) ?_ ?_
    rotate_left
    · intro w2 hSw
      clear hSw
      go_simp
      try with_reducible rfl
    try simp only [Act.put, List.setIfInBounds_toArray, List.set_cons_zero, List.set_cons_succ]
  refine plan_done ?_
  have HP := hH; clear hH
  go_upto_region 11 with fail
  refine wp_region_plan (fun w' => PartsOut L none w w') [(0, true), (1, true), (2, true), (3, true), (4, true), (5, true), (6, true), (7, true), (8, true), (9, true), (10, true), (11, true), (12, true), (13, false), (14, true), (15, true), (16, true), (17, true), (18, true), (19, false), (20, true), (21, true)] (by kernel_rfl) (by kernel_rfl) rfl (by kernel_rfl) (HP.out.drewN 1) ?_
  intro w1 hH
  iterate 4
    refine plan_take (v := ?_) rfl (by rfl) ?_ ?_
    rotate_left
    · intro w2 hSw
      clear hSw
      go_simp
      try with_reducible rfl
    try simp only [Act.put, List.setIfInBounds_toArray, List.set_cons_zero, List.set_cons_succ]
  iterate 9
    refine plan_skip rfl (by rfl) ?_
    try simp only [Act.put, List.setIfInBounds_toArray, List.set_cons_zero, List.set_cons_succ]
  refine plan_skipM rfl (by rfl) hH.out ?_
  try simp only [Act.put, List.setIfInBounds_toArray, List.set_cons_zero, List.set_cons_succ]
  iterate 2
    refine plan_take (v := ?_) rfl (by rfl) ?_ ?_
    rotate_left
    · intro w2 hSw
      clear hSw
      go_simp
      try with_reducible rfl
    try simp only [Act.put, List.setIfInBounds_toArray, List.set_cons_zero, List.set_cons_succ]
  iterate 3
    refine plan_skip rfl (by rfl) ?_
    try simp only [Act.put, List.setIfInBounds_toArray, List.set_cons_zero, List.set_cons_succ]
  refine plan_skipM rfl (by rfl) hH.out ?_
  try simp only [Act.put, List.setIfInBounds_toArray, List.set_cons_zero, List.set_cons_succ]
  iterate 2
    refine plan_take (v := ?_) rfl (by rfl) ?_ ?_
    rotate_left
    · intro w2 hSw
      clear hSw
      go_simp
      try with_reducible rfl
    try simp only [Act.put, List.setIfInBounds_toArray, List.set_cons_zero, List.set_cons_succ]
  refine plan_done ?_
  have HP := hH; clear hH
  obtain ⟨p1, ⟨fy, fm, fd, fh, fi, fs, p2, p3⟩, p4, p5⟩ := HP.out
  obtain ⟨c0, c1, c2, c3, c4, c5, c6⟩ := civ_cells p2
  have P1 := Lib.hid p1; have P3 := Lib.hid p3; have P2 := Lib.hid p2
  have hone : ∀ v ∈ civV fy fm fd fh fi fs 0, v.oneCell' = true := by simp [civV, Value.oneCell']
  have Hone := Lib.hid hone
  clear p1 p2 p3 hone
  go_wp2_with (refine wpList_store_row rfl 83 _ _ rfl w.heap.size 83 (civV fy fm fd fh fi fs 0) _ (by rfl) (by rfl) p4 rfl (by kernel_rfl) Hone.out ?_; intro w9 h5 h6)
  have hbel := h6.below p5 (Nat.le_refl _)
  obtain ⟨d0, d1, d2, d3, d4, d5, d6⟩ := civ_cells h5
  exact bodyPost_ret (v := .tuple #[.agg (civV fy fm fd fh fi fs 0).toArray, .int .i64 (-1)]) (by simp [results, Tryd.results54, go_sem, civV, d0, d1, d2, d3, d4, d5, d6]) rfl ⟨PartsRes.no HO.out _ _ _ _ _ _, hbel⟩
theorem suffix_last (a : List UInt8) (x : UInt8) : Lib.hasSuffix a [x] = decide (a.getLast? = some x) := by
  rw [Bool.eq_iff_iff, decide_eq_true_iff]
  unfold Lib.hasSuffix
  rw [List.isSuffixOf_iff_suffix]
  constructor
  · rintro ⟨m, rfl⟩; simp
  · intro h
    obtain ⟨m, rfl⟩ := List.getLast?_eq_some_iff.1 h
    exact ⟨m, rfl⟩
theorem getLast_ne {a : List UInt8} {x : UInt8} (h : ¬ a.getLast? = some x) : decide (a.getLast? = some x) = false := decide_eq_false h
set_option maxHeartbeats 16000000 in
theorem parts6 (s : ByteArray) (hs : s.size ≤ 1000000000) (a b c d e f : List UInt8) (hp : pieces 32 s.data.toList = [a, b, c, d, e, f]) (w : World) (hsh : w.ShapedOpen Tryd.prog) :
    Calls Tryd.prog 54 #[.string s] w fun e w' => PartsRes (partsL s.data.toList) e ∧ Below w.heap.size w w' := by
  have SP := Lib.hid (fun w hsh => Split1_any s 32 w hsh (by omega))
  have Hsh := Lib.hid hsh; clear hsh
  have hle := pieces_le 32 s.data.toList
  rw [data_len] at hle
  obtain ⟨o, ho⟩ : ∃ o, partsL s.data.toList = o := ⟨_, rfl⟩
  rw [ho]
  have hpl : partsL s.data.toList = if a.getLast? = some 44 ∧ (tryDT b c d e).isSome then (tryDT b c d e).map fun r => (0, r) else if c = [] then (tryDT d b f e).map fun r => (2, r) else none := by unfold partsL; rw [hp]
  rw [hp] at SP hle
  have la := hle a (by simp)
  have lb := hle b (by simp)
  have ld := hle d (by simp)
  have le_ := hle e (by simp)
  have lf := hle f (by simp)
  have SF : ∀ w, Calls Tryd.prog 79 #[.string ⟨a.toArray⟩, .string ⟨#[44]⟩] w fun e w' => e = .returned (.bool (decide (a.getLast? = some 44))) ∧ w = w' := fun w => (Tryd.strings_HasSuffix ⟨a.toArray⟩ ⟨#[44]⟩ w (by rw [size_mk]; omega)).mono fun (e : Ending) w' ⟨h1, h2⟩ => ⟨by rw [h1, ← suffix_last], h2.symm⟩
  clear hp hle
  by_cases hA : a.getLast? = some 44 ∧ (tryDT b c d e).isSome = true
  · rw [if_pos hA] at hpl
    obtain ⟨hA1, hA2⟩ := hA
    have hA3 : decide (a.getLast? = some 44) = true := decide_eq_true hA1
    rw [hA3] at SF
    have HO := Lib.hid (ho.symm.trans hpl)
    replace SF := Lib.hid SF
    by_cases h1 : (datedL b c d).isSome = true
    · by_cases h2 : (timedL e).isSome = true
      · have D1 := Lib.hid h1
        have T1 := Lib.hid h2
        obtain ⟨da, ta, hda, hta, htr⟩ := tryDT_some h1 h2
        have HDa := Lib.hid hda; have HTa := Lib.hid hta; have HTr := Lib.hid htr
        clear h1 h2 hda hta htr ho hpl hA1 hA2 hA3
        go_enter Tryd.func54, Tryd.ntmps54
        go_upto_region 3 with (go_at_call_of 78 (Value.string s); refine (SP.out _ (shaped_below Hsh.out (((Below.refl _ _).alloc (Nat.le_refl _) _).alloc (by simp) _))).mono ?_; rintro e w2 ⟨rfl, hr2, hb2⟩; have hP := PartsOut.start hr2 hb2; have HP := Lib.hid hP; clear hr2 hb2 hP)
        refine wp_region_plan (fun w' => PartsOut [a, b, c, d, e, f] none w w') [(0, true), (1, true), (2, true), (3, true), (4, true), (5, true), (6, true), (7, false), (8, true), (9, true), (10, true), (11, true), (12, true), (13, true), (14, true), (15, true), (16, true), (17, true), (18, true), (19, false), (20, true), (21, true), (22, true), (23, true), (24, true), (25, false), (26, true), (27, true)] (by kernel_rfl) (by kernel_rfl) rfl (by kernel_rfl) (HP.out.drewN 1) ?_
        intro w1 hH
        iterate 7
          refine plan_take (v := ?_) rfl (by rfl) ?_ ?_
          rotate_left
          · intro w2 hSw
            have s0 := strsV_cells hSw.1 0 rfl
            have s1 := strsV_cells hSw.1 1 rfl
            have s2 := strsV_cells hSw.1 2 rfl
            have s3 := strsV_cells hSw.1 3 rfl
            have s4 := strsV_cells hSw.1 4 rfl
            have s5 := strsV_cells hSw.1 5 rfl
            clear hSw
            go_simp
            try with_reducible rfl
          try simp only [Act.put, List.setIfInBounds_toArray, List.set_cons_zero, List.set_cons_succ]
        refine plan_move rfl (by rfl) (fun K hK => ?_)
        go_simp
        (refine (SF.out _).mono ?_)
        rintro e w3 ⟨rfl, rfl⟩
        refine hK.out _ _ (hH.out) ?_
        clear hH hK K
        intro hH
        try simp only [Act.put, List.setIfInBounds_toArray, List.set_cons_zero, List.set_cons_succ]
        iterate 11
          refine plan_take (v := ?_) rfl (by rfl) ?_ ?_
          rotate_left
          · intro w2 hSw
            have s0 := strsV_cells hSw.1 0 rfl
            have s1 := strsV_cells hSw.1 1 rfl
            have s2 := strsV_cells hSw.1 2 rfl
            have s3 := strsV_cells hSw.1 3 rfl
            have s4 := strsV_cells hSw.1 4 rfl
            have s5 := strsV_cells hSw.1 5 rfl
            clear hSw
            go_simp
            try with_reducible rfl
          try simp only [Act.put, List.setIfInBounds_toArray, List.set_cons_zero, List.set_cons_succ]
        refine plan_move rfl (by rfl) (fun K hK => ?_)
        go_simp
        obtain ⟨_, ⟨y1, m1, e1, h1, i1, s1, p2, _⟩, _, p5⟩ := hH.out
        have C := Lib.hid (dated_spec b c d (w.heap.size + 1) y1 m1 e1 h1 i1 s1 0 _ (shaped_below Hsh.out p5) (by omega) (by omega) p2)
        (refine C.out.mono ?_)
        rintro e w3 ⟨rfl, ⟨y2, m2, e2, p6, p7⟩, p8⟩
        rw [D1.out]
        refine hK.out _ _ (hH.out.civ p8 p6 (fun q hq => by cases hq)) ?_
        have P6 := Lib.hid p6
        have P7 := Lib.hid p7
        clear hH hK K p6 p7 p8 C p2
        intro hH
        try simp only [Act.put, List.setIfInBounds_toArray, List.set_cons_zero, List.set_cons_succ]
        iterate 5
          refine plan_take (v := ?_) rfl (by rfl) ?_ ?_
          rotate_left
          · intro w2 hSw
            have s0 := strsV_cells hSw.1 0 rfl
            have s1 := strsV_cells hSw.1 1 rfl
            have s2 := strsV_cells hSw.1 2 rfl
            have s3 := strsV_cells hSw.1 3 rfl
            have s4 := strsV_cells hSw.1 4 rfl
            have s5 := strsV_cells hSw.1 5 rfl
            clear hSw
            go_simp
            try with_reducible rfl
          try simp only [Act.put, List.setIfInBounds_toArray, List.set_cons_zero, List.set_cons_succ]
        refine plan_move rfl (by rfl) (fun K hK => ?_)
        go_simp
        have C := Lib.hid (timed_spec e (w.heap.size + 1) y2 m2 e2 h1 i1 s1 0 _ (shaped_below Hsh.out hH.out.2.2.2) (by omega) P6.out)
        (refine C.out.mono ?_)
        rintro e w4 ⟨rfl, ⟨h3, i3, s3, p6, p7⟩, p8⟩
        rw [T1.out]
        refine hK.out _ _ (hH.out.civ p8 p6 (fun q hq => by cases hq)) ?_
        have HQ := Lib.hid (hH.out.civ (r' := some (da, ta)) p8 p6 (fun q hq => by rw [← Option.some.inj hq, P7.out _ HDa.out, p7 _ HTa.out]))
        clear hH hK K p6 p7 p8 C
        intro hH
        try simp only [Act.put, List.setIfInBounds_toArray, List.set_cons_zero, List.set_cons_succ]
        iterate 2
          refine plan_take (v := ?_) rfl (by rfl) ?_ ?_
          rotate_left
          · intro w2 hSw
            have s0 := strsV_cells hSw.1 0 rfl
            have s1 := strsV_cells hSw.1 1 rfl
            have s2 := strsV_cells hSw.1 2 rfl
            have s3 := strsV_cells hSw.1 3 rfl
            have s4 := strsV_cells hSw.1 4 rfl
            have s5 := strsV_cells hSw.1 5 rfl
            clear hSw
            go_simp
            try with_reducible rfl
          try simp only [Act.put, List.setIfInBounds_toArray, List.set_cons_zero, List.set_cons_succ]
        refine plan_done ?_
        have HP := hH; clear hH
        clear HP; have HP := HQ; clear HQ
        obtain ⟨p1, ⟨fy, fm, fd, fh, fi, fs, p2, p3⟩, p4, p5⟩ := HP.out
        obtain ⟨c0, c1, c2, c3, c4, c5, c6⟩ := civ_cells p2
        have P1 := Lib.hid p1; have P3 := Lib.hid p3; have P2 := Lib.hid p2
        have hone : ∀ v ∈ civV fy fm fd fh fi fs 0, v.oneCell' = true := by simp [civV, Value.oneCell']
        have Hone := Lib.hid hone
        clear p1 p2 p3 hone
        go_wp2_with (refine wpList_store_row rfl 83 _ _ rfl w.heap.size 83 (civV fy fm fd fh fi fs 0) _ (by rfl) (by rfl) p4 rfl (by kernel_rfl) Hone.out ?_; intro w9 h5 h6)
        have hbel := h6.below p5 (Nat.le_refl _)
        obtain ⟨d0, d1, d2, d3, d4, d5, d6⟩ := civ_cells h5
        exact bodyPost_ret (v := .tuple #[.agg (civV fy fm fd fh fi fs 0).toArray, .int .i64 0]) (by simp [results, Tryd.results54, go_sem, civV, d0, d1, d2, d3, d4, d5, d6]) rfl ⟨PartsRes.yes (by rw [HO.out, HTr.out]; rfl) (P3.out _ rfl), hbel⟩
      · rw [tryDT_none (.inr (by simpa using h2))] at hA2; cases hA2
    · rw [tryDT_none (.inl (by simpa using h1))] at hA2; cases hA2
  · rw [if_neg hA] at hpl
    have HO := Lib.hid (ho.symm.trans hpl)
    have hcase : decide (a.getLast? = some 44) = false ∨ (decide (a.getLast? = some 44) = true ∧ (datedL b c d).isSome = false) ∨ (decide (a.getLast? = some 44) = true ∧ (datedL b c d).isSome = true ∧ (timedL e).isSome = false) := by
      by_cases g1 : a.getLast? = some 44
      · by_cases g2 : (datedL b c d).isSome = true
        · by_cases g3 : (timedL e).isSome = true
          · obtain ⟨da, ta, _, _, htr⟩ := tryDT_some g2 g3
            exact absurd ⟨g1, by rw [htr]; rfl⟩ hA
          · exact .inr (.inr ⟨decide_eq_true g1, g2, by simpa using g3⟩)
        · exact .inr (.inl ⟨decide_eq_true g1, by simpa using g2⟩)
      · exact .inl (decide_eq_false g1)
    clear ho hpl hA
    obtain ⟨C, hC⟩ : ∃ C : ByteArray, (⟨c.toArray⟩ : ByteArray) = C := ⟨_, rfl⟩
    have hCd : C.toList = c := by rw [ByteArray.toList_eq, ← hC]
    have HC := Lib.hid hC; have HCd := Lib.hid hCd
    clear hC hCd
    rcases hcase with g1 | ⟨g1, g2⟩ | ⟨g1, g2, g3⟩
    · rw [g1] at SF
      replace SF := Lib.hid SF
      clear g1
      go_enter Tryd.func54, Tryd.ntmps54
      go_upto_region 3 with (go_at_call_of 78 (Value.string s); refine (SP.out _ (shaped_below Hsh.out (((Below.refl _ _).alloc (Nat.le_refl _) _).alloc (by simp) _))).mono ?_; rintro e w2 ⟨rfl, hr2, hb2⟩; have hP := PartsOut.start hr2 hb2; have HP := Lib.hid hP; clear hr2 hb2 hP)
      refine wp_region_plan (fun w' => PartsOut [a, b, c, d, e, f] none w w') [(0, true), (1, true), (2, true), (3, true), (4, true), (5, true), (6, true), (7, false), (8, true), (9, true), (10, true), (11, true), (12, true), (13, true), (14, true), (15, true), (16, true), (17, true), (18, true), (19, false), (20, true), (21, true), (22, true), (23, true), (24, true), (25, false), (26, true), (27, true)] (by kernel_rfl) (by kernel_rfl) rfl (by kernel_rfl) (HP.out.drewN 1) ?_
      intro w1 hH
      iterate 7
        refine plan_take (v := ?_) rfl (by rfl) ?_ ?_
        rotate_left
        · intro w2 hSw
          have s0 := strsV_cells hSw.1 0 rfl
          have s1 := strsV_cells hSw.1 1 rfl
          have s2 := strsV_cells hSw.1 2 rfl
          have s3 := strsV_cells hSw.1 3 rfl
          have s4 := strsV_cells hSw.1 4 rfl
          have s5 := strsV_cells hSw.1 5 rfl
          clear hSw
          go_simp
          try with_reducible rfl
        try simp only [Act.put, List.setIfInBounds_toArray, List.set_cons_zero, List.set_cons_succ]
      refine plan_move rfl (by rfl) (fun K hK => ?_)
      go_simp
      (refine (SF.out _).mono ?_)
      rintro e w3 ⟨rfl, rfl⟩
      refine hK.out _ _ (hH.out) ?_
      clear hH hK K
      intro hH
      try simp only [Act.put, List.setIfInBounds_toArray, List.set_cons_zero, List.set_cons_succ]
      iterate 2
        refine plan_take (v := ?_) rfl (by rfl) ?_ ?_
        rotate_left
        · intro w2 hSw
          have s0 := strsV_cells hSw.1 0 rfl
          have s1 := strsV_cells hSw.1 1 rfl
          have s2 := strsV_cells hSw.1 2 rfl
          have s3 := strsV_cells hSw.1 3 rfl
          have s4 := strsV_cells hSw.1 4 rfl
          have s5 := strsV_cells hSw.1 5 rfl
          clear hSw
          go_simp
          try with_reducible rfl
        try simp only [Act.put, List.setIfInBounds_toArray, List.set_cons_zero, List.set_cons_succ]
      iterate 9
        refine plan_skip rfl (by rfl) ?_
        try simp only [Act.put, List.setIfInBounds_toArray, List.set_cons_zero, List.set_cons_succ]
      refine plan_skipM rfl (by rfl) hH.out ?_
      try simp only [Act.put, List.setIfInBounds_toArray, List.set_cons_zero, List.set_cons_succ]
      iterate 2
        refine plan_take (v := ?_) rfl (by rfl) ?_ ?_
        rotate_left
        · intro w2 hSw
          have s0 := strsV_cells hSw.1 0 rfl
          have s1 := strsV_cells hSw.1 1 rfl
          have s2 := strsV_cells hSw.1 2 rfl
          have s3 := strsV_cells hSw.1 3 rfl
          have s4 := strsV_cells hSw.1 4 rfl
          have s5 := strsV_cells hSw.1 5 rfl
          clear hSw
          go_simp
          try with_reducible rfl
        try simp only [Act.put, List.setIfInBounds_toArray, List.set_cons_zero, List.set_cons_succ]
      iterate 3
        refine plan_skip rfl (by rfl) ?_
        try simp only [Act.put, List.setIfInBounds_toArray, List.set_cons_zero, List.set_cons_succ]
      refine plan_skipM rfl (by rfl) hH.out ?_
      try simp only [Act.put, List.setIfInBounds_toArray, List.set_cons_zero, List.set_cons_succ]
      iterate 2
        refine plan_take (v := ?_) rfl (by rfl) ?_ ?_
        rotate_left
        · intro w2 hSw
          have s0 := strsV_cells hSw.1 0 rfl
          have s1 := strsV_cells hSw.1 1 rfl
          have s2 := strsV_cells hSw.1 2 rfl
          have s3 := strsV_cells hSw.1 3 rfl
          have s4 := strsV_cells hSw.1 4 rfl
          have s5 := strsV_cells hSw.1 5 rfl
          clear hSw
          go_simp
          try with_reducible rfl
        try simp only [Act.put, List.setIfInBounds_toArray, List.set_cons_zero, List.set_cons_succ]
      refine plan_done ?_
      have HP := hH; clear hH
      go_upto_region 9 with fail
      by_cases hc0 : c = []
      · have hce : C.toList = [] := by rw [HCd.out]; exact hc0
        have HO2 : o = (tryDT d b f e).map fun r => (2, r) := by rw [HO.out, if_pos hc0]
        have HO3 := Lib.hid HO2
        clear HO2 hc0
        by_cases h1 : (datedL d b f).isSome = true
        · have D2 := Lib.hid h1
          by_cases h2 : (timedL e).isSome = true
          · have T2 := Lib.hid h2
            obtain ⟨da, ta, hda, hta, htr⟩ := tryDT_some h1 h2
            have HDa := Lib.hid hda; have HTa := Lib.hid hta; have HTr := Lib.hid htr
            clear h1 h2 hda hta htr
            refine wp_region_plan (fun w' => PartsOut [a, b, c, d, e, f] none w w') [(0, true), (1, true), (2, true), (3, true), (4, true), (5, true), (6, true), (7, true), (8, true), (9, true), (10, true), (11, true), (12, true), (13, true), (14, true), (15, true), (16, true), (17, true), (18, true), (19, false), (20, true), (21, true), (22, true), (23, true), (24, true), (25, false), (26, true), (27, true)] (by kernel_rfl) (by kernel_rfl) rfl (by kernel_rfl) (HP.out.drewN 1) ?_
            intro w1 hH
            iterate 19
              refine plan_take (v := ?_) rfl (by rfl) ?_ ?_
              rotate_left
              · intro w2 hSw
                have s0 := strsV_cells hSw.1 0 rfl
                have s1 := strsV_cells hSw.1 1 rfl
                have s2 := strsV_cells hSw.1 2 rfl
                rw [HC.out] at s2
                have s3 := strsV_cells hSw.1 3 rfl
                have s4 := strsV_cells hSw.1 4 rfl
                have s5 := strsV_cells hSw.1 5 rfl
                clear hSw
                go_simp
                try with_reducible rfl
              try simp only [Act.put, List.setIfInBounds_toArray, List.set_cons_zero, List.set_cons_succ]
            refine plan_move rfl (by rfl) (fun K hK => ?_)
            go_simp
            obtain ⟨_, ⟨y1, m1, e1, h1, i1, s1, p2, _⟩, _, p5⟩ := hH.out
            have C := Lib.hid (dated_spec d b f (w.heap.size + 1) y1 m1 e1 h1 i1 s1 0 _ (shaped_below Hsh.out p5) (by omega) (by omega) p2)
            (refine C.out.mono ?_)
            rintro e w3 ⟨rfl, ⟨y2, m2, e2, p6, p7⟩, p8⟩
            rw [D2.out]
            refine hK.out _ _ (hH.out.civ p8 p6 (fun q hq => by cases hq)) ?_
            have P6 := Lib.hid p6
            have P7 := Lib.hid p7
            clear hH hK K p6 p7 p8 C p2
            intro hH
            try simp only [Act.put, List.setIfInBounds_toArray, List.set_cons_zero, List.set_cons_succ]
            iterate 5
              refine plan_take (v := ?_) rfl (by rfl) ?_ ?_
              rotate_left
              · intro w2 hSw
                have s0 := strsV_cells hSw.1 0 rfl
                have s1 := strsV_cells hSw.1 1 rfl
                have s2 := strsV_cells hSw.1 2 rfl
                rw [HC.out] at s2
                have s3 := strsV_cells hSw.1 3 rfl
                have s4 := strsV_cells hSw.1 4 rfl
                have s5 := strsV_cells hSw.1 5 rfl
                clear hSw
                go_simp
                try with_reducible rfl
              try simp only [Act.put, List.setIfInBounds_toArray, List.set_cons_zero, List.set_cons_succ]
            refine plan_move rfl (by rfl) (fun K hK => ?_)
            go_simp
            have C := Lib.hid (timed_spec e (w.heap.size + 1) y2 m2 e2 h1 i1 s1 0 _ (shaped_below Hsh.out hH.out.2.2.2) (by omega) P6.out)
            (refine C.out.mono ?_)
            rintro e w4 ⟨rfl, ⟨h3, i3, s3, p6, p7⟩, p8⟩
            rw [T2.out]
            refine hK.out _ _ (hH.out.civ p8 p6 (fun q hq => by cases hq)) ?_
            have HQ := Lib.hid (hH.out.civ (r' := some (da, ta)) p8 p6 (fun q hq => by rw [← Option.some.inj hq, P7.out _ HDa.out, p7 _ HTa.out]))
            clear hH hK K p6 p7 p8 C
            intro hH
            try simp only [Act.put, List.setIfInBounds_toArray, List.set_cons_zero, List.set_cons_succ]
            iterate 2
              refine plan_take (v := ?_) rfl (by rfl) ?_ ?_
              rotate_left
              · intro w2 hSw
                have s0 := strsV_cells hSw.1 0 rfl
                have s1 := strsV_cells hSw.1 1 rfl
                have s2 := strsV_cells hSw.1 2 rfl
                rw [HC.out] at s2
                have s3 := strsV_cells hSw.1 3 rfl
                have s4 := strsV_cells hSw.1 4 rfl
                have s5 := strsV_cells hSw.1 5 rfl
                clear hSw
                go_simp
                try with_reducible rfl
              try simp only [Act.put, List.setIfInBounds_toArray, List.set_cons_zero, List.set_cons_succ]
            refine plan_done ?_
            have HP := hH; clear hH
            clear HP; have HP := HQ; clear HQ
            obtain ⟨p1, ⟨fy, fm, fd, fh, fi, fs, p2, p3⟩, p4, p5⟩ := HP.out
            obtain ⟨c0, c1, c2, c3, c4, c5, c6⟩ := civ_cells p2
            have P1 := Lib.hid p1; have P3 := Lib.hid p3; have P2 := Lib.hid p2
            have hone : ∀ v ∈ civV fy fm fd fh fi fs 0, v.oneCell' = true := by simp [civV, Value.oneCell']
            have Hone := Lib.hid hone
            clear p1 p2 p3 hone
            go_wp2_with (refine wpList_store_row rfl 83 _ _ rfl w.heap.size 83 (civV fy fm fd fh fi fs 0) _ (by rfl) (by rfl) p4 rfl (by kernel_rfl) Hone.out ?_; intro w9 h5 h6)
            have hbel := h6.below p5 (Nat.le_refl _)
            obtain ⟨d0, d1, d2, d3, d4, d5, d6⟩ := civ_cells h5
            exact bodyPost_ret (v := .tuple #[.agg (civV fy fm fd fh fi fs 0).toArray, .int .i64 2]) (by simp [results, Tryd.results54, go_sem, civV, d0, d1, d2, d3, d4, d5, d6]) rfl ⟨PartsRes.yes (by rw [HO3.out, HTr.out]; rfl) (P3.out _ rfl), hbel⟩
          · have h2' : (timedL e).isSome = false := by simpa using h2
            have T2 := Lib.hid h2'
            have HTr := Lib.hid (tryDT_none (d := d) (m := b) (y := f) (t := e) (.inr h2'))
            clear h1 h2 h2'
            refine wp_region_plan (fun w' => PartsOut [a, b, c, d, e, f] none w w') [(0, true), (1, true), (2, true), (3, true), (4, true), (5, true), (6, true), (7, true), (8, true), (9, true), (10, true), (11, true), (12, true), (13, true), (14, true), (15, true), (16, true), (17, true), (18, true), (19, false), (20, true), (21, true), (22, true), (23, true), (24, true), (25, false), (26, true), (27, true)] (by kernel_rfl) (by kernel_rfl) rfl (by kernel_rfl) (HP.out.drewN 1) ?_
            intro w1 hH
            iterate 19
              refine plan_take (v := ?_) rfl (by rfl) ?_ ?_
              rotate_left
              · intro w2 hSw
                have s0 := strsV_cells hSw.1 0 rfl
                have s1 := strsV_cells hSw.1 1 rfl
                have s2 := strsV_cells hSw.1 2 rfl
                rw [HC.out] at s2
                have s3 := strsV_cells hSw.1 3 rfl
                have s4 := strsV_cells hSw.1 4 rfl
                have s5 := strsV_cells hSw.1 5 rfl
                clear hSw
                go_simp
                try with_reducible rfl
              try simp only [Act.put, List.setIfInBounds_toArray, List.set_cons_zero, List.set_cons_succ]
            refine plan_move rfl (by rfl) (fun K hK => ?_)
            go_simp
            obtain ⟨_, ⟨y1, m1, e1, h1, i1, s1, p2, _⟩, _, p5⟩ := hH.out
            have C := Lib.hid (dated_spec d b f (w.heap.size + 1) y1 m1 e1 h1 i1 s1 0 _ (shaped_below Hsh.out p5) (by omega) (by omega) p2)
            (refine C.out.mono ?_)
            rintro e w3 ⟨rfl, ⟨y2, m2, e2, p6, p7⟩, p8⟩
            rw [D2.out]
            refine hK.out _ _ (hH.out.civ p8 p6 (fun q hq => by cases hq)) ?_
            have P6 := Lib.hid p6
            have P7 := Lib.hid p7
            clear hH hK K p6 p7 p8 C p2
            intro hH
            try simp only [Act.put, List.setIfInBounds_toArray, List.set_cons_zero, List.set_cons_succ]
            iterate 5
              refine plan_take (v := ?_) rfl (by rfl) ?_ ?_
              rotate_left
              · intro w2 hSw
                have s0 := strsV_cells hSw.1 0 rfl
                have s1 := strsV_cells hSw.1 1 rfl
                have s2 := strsV_cells hSw.1 2 rfl
                rw [HC.out] at s2
                have s3 := strsV_cells hSw.1 3 rfl
                have s4 := strsV_cells hSw.1 4 rfl
                have s5 := strsV_cells hSw.1 5 rfl
                clear hSw
                go_simp
                try with_reducible rfl
              try simp only [Act.put, List.setIfInBounds_toArray, List.set_cons_zero, List.set_cons_succ]
            refine plan_move rfl (by rfl) (fun K hK => ?_)
            go_simp
            have C := Lib.hid (timed_spec e (w.heap.size + 1) y2 m2 e2 h1 i1 s1 0 _ (shaped_below Hsh.out hH.out.2.2.2) (by omega) P6.out)
            (refine C.out.mono ?_)
            rintro e w4 ⟨rfl, ⟨h3, i3, s3, p6, p7⟩, p8⟩
            rw [T2.out]
            refine hK.out _ _ (hH.out.civ p8 p6 (fun q hq => by cases hq)) ?_
            clear hH hK K p6 p7 p8 C
            intro hH
            try simp only [Act.put, List.setIfInBounds_toArray, List.set_cons_zero, List.set_cons_succ]
            iterate 2
              refine plan_take (v := ?_) rfl (by rfl) ?_ ?_
              rotate_left
              · intro w2 hSw
                have s0 := strsV_cells hSw.1 0 rfl
                have s1 := strsV_cells hSw.1 1 rfl
                have s2 := strsV_cells hSw.1 2 rfl
                rw [HC.out] at s2
                have s3 := strsV_cells hSw.1 3 rfl
                have s4 := strsV_cells hSw.1 4 rfl
                have s5 := strsV_cells hSw.1 5 rfl
                clear hSw
                go_simp
                try with_reducible rfl
              try simp only [Act.put, List.setIfInBounds_toArray, List.set_cons_zero, List.set_cons_succ]
            refine plan_done ?_
            have HP := hH; clear hH
            go_upto_region 11 with fail
            refine wp_region_plan (fun w' => PartsOut [a, b, c, d, e, f] none w w') [(0, true), (1, true), (2, true), (3, true), (4, true), (5, true), (6, true), (7, true), (8, true), (9, true), (10, true), (11, true), (12, true), (13, false), (14, true), (15, true), (16, true), (17, true), (18, true), (19, false), (20, true), (21, true)] (by kernel_rfl) (by kernel_rfl) rfl (by kernel_rfl) (HP.out.drewN 1) ?_
            intro w1 hH
            iterate 4
              refine plan_take (v := ?_) rfl (by rfl) ?_ ?_
              rotate_left
              · intro w2 hSw
                clear hSw
                go_simp
                try with_reducible rfl
              try simp only [Act.put, List.setIfInBounds_toArray, List.set_cons_zero, List.set_cons_succ]
            iterate 9
              refine plan_skip rfl (by rfl) ?_
              try simp only [Act.put, List.setIfInBounds_toArray, List.set_cons_zero, List.set_cons_succ]
            refine plan_skipM rfl (by rfl) hH.out ?_
            try simp only [Act.put, List.setIfInBounds_toArray, List.set_cons_zero, List.set_cons_succ]
            iterate 2
              refine plan_take (v := ?_) rfl (by rfl) ?_ ?_
              rotate_left
              · intro w2 hSw
                clear hSw
                go_simp
                try with_reducible rfl
              try simp only [Act.put, List.setIfInBounds_toArray, List.set_cons_zero, List.set_cons_succ]
            iterate 3
              refine plan_skip rfl (by rfl) ?_
              try simp only [Act.put, List.setIfInBounds_toArray, List.set_cons_zero, List.set_cons_succ]
            refine plan_skipM rfl (by rfl) hH.out ?_
            try simp only [Act.put, List.setIfInBounds_toArray, List.set_cons_zero, List.set_cons_succ]
            iterate 2
              refine plan_take (v := ?_) rfl (by rfl) ?_ ?_
              rotate_left
              · intro w2 hSw
                clear hSw
                go_simp
                try with_reducible rfl
              try simp only [Act.put, List.setIfInBounds_toArray, List.set_cons_zero, List.set_cons_succ]
            refine plan_done ?_
            have HP := hH; clear hH
            obtain ⟨p1, ⟨fy, fm, fd, fh, fi, fs, p2, p3⟩, p4, p5⟩ := HP.out
            obtain ⟨c0, c1, c2, c3, c4, c5, c6⟩ := civ_cells p2
            have P1 := Lib.hid p1; have P3 := Lib.hid p3; have P2 := Lib.hid p2
            have hone : ∀ v ∈ civV fy fm fd fh fi fs 0, v.oneCell' = true := by simp [civV, Value.oneCell']
            have Hone := Lib.hid hone
            clear p1 p2 p3 hone
            go_wp2_with (refine wpList_store_row rfl 83 _ _ rfl w.heap.size 83 (civV fy fm fd fh fi fs 0) _ (by rfl) (by rfl) p4 rfl (by kernel_rfl) Hone.out ?_; intro w9 h5 h6)
            have hbel := h6.below p5 (Nat.le_refl _)
            obtain ⟨d0, d1, d2, d3, d4, d5, d6⟩ := civ_cells h5
            exact bodyPost_ret (v := .tuple #[.agg (civV fy fm fd fh fi fs 0).toArray, .int .i64 (-1)]) (by simp [results, Tryd.results54, go_sem, civV, d0, d1, d2, d3, d4, d5, d6]) rfl ⟨PartsRes.no (by rw [HO3.out, HTr.out]; rfl) _ _ _ _ _ _, hbel⟩
        · have h1' : (datedL d b f).isSome = false := by simpa using h1
          have D2 := Lib.hid h1'
          have HTr := Lib.hid (tryDT_none (d := d) (m := b) (y := f) (t := e) (.inl h1'))
          clear h1 h1'
          refine wp_region_plan (fun w' => PartsOut [a, b, c, d, e, f] none w w') [(0, true), (1, true), (2, true), (3, true), (4, true), (5, true), (6, true), (7, true), (8, true), (9, true), (10, true), (11, true), (12, true), (13, true), (14, true), (15, true), (16, true), (17, true), (18, true), (19, false), (20, true), (21, true), (22, true), (23, true), (24, true), (25, false), (26, true), (27, true)] (by kernel_rfl) (by kernel_rfl) rfl (by kernel_rfl) (HP.out.drewN 1) ?_
          intro w1 hH
          iterate 19
            refine plan_take (v := ?_) rfl (by rfl) ?_ ?_
            rotate_left
            · intro w2 hSw
              have s0 := strsV_cells hSw.1 0 rfl
              have s1 := strsV_cells hSw.1 1 rfl
              have s2 := strsV_cells hSw.1 2 rfl
              rw [HC.out] at s2
              have s3 := strsV_cells hSw.1 3 rfl
              have s4 := strsV_cells hSw.1 4 rfl
              have s5 := strsV_cells hSw.1 5 rfl
              clear hSw
              go_simp
              try with_reducible rfl
            try simp only [Act.put, List.setIfInBounds_toArray, List.set_cons_zero, List.set_cons_succ]
          refine plan_move rfl (by rfl) (fun K hK => ?_)
          go_simp
          obtain ⟨_, ⟨y1, m1, e1, h1, i1, s1, p2, _⟩, _, p5⟩ := hH.out
          have C := Lib.hid (dated_spec d b f (w.heap.size + 1) y1 m1 e1 h1 i1 s1 0 _ (shaped_below Hsh.out p5) (by omega) (by omega) p2)
          (refine C.out.mono ?_)
          rintro e w3 ⟨rfl, ⟨y2, m2, e2, p6, p7⟩, p8⟩
          rw [D2.out]
          refine hK.out _ _ (hH.out.civ p8 p6 (fun q hq => by cases hq)) ?_
          have P6 := Lib.hid p6
          have P7 := Lib.hid p7
          clear hH hK K p6 p7 p8 C p2
          intro hH
          try simp only [Act.put, List.setIfInBounds_toArray, List.set_cons_zero, List.set_cons_succ]
          iterate 2
            refine plan_take (v := ?_) rfl (by rfl) ?_ ?_
            rotate_left
            · intro w2 hSw
              have s0 := strsV_cells hSw.1 0 rfl
              have s1 := strsV_cells hSw.1 1 rfl
              have s2 := strsV_cells hSw.1 2 rfl
              rw [HC.out] at s2
              have s3 := strsV_cells hSw.1 3 rfl
              have s4 := strsV_cells hSw.1 4 rfl
              have s5 := strsV_cells hSw.1 5 rfl
              clear hSw
              go_simp
              try with_reducible rfl
            try simp only [Act.put, List.setIfInBounds_toArray, List.set_cons_zero, List.set_cons_succ]
          iterate 3
            refine plan_skip rfl (by rfl) ?_
            try simp only [Act.put, List.setIfInBounds_toArray, List.set_cons_zero, List.set_cons_succ]
          refine plan_skipM rfl (by rfl) hH.out ?_
          try simp only [Act.put, List.setIfInBounds_toArray, List.set_cons_zero, List.set_cons_succ]
          iterate 2
            refine plan_take (v := ?_) rfl (by rfl) ?_ ?_
            rotate_left
            · intro w2 hSw
              have s0 := strsV_cells hSw.1 0 rfl
              have s1 := strsV_cells hSw.1 1 rfl
              have s2 := strsV_cells hSw.1 2 rfl
              rw [HC.out] at s2
              have s3 := strsV_cells hSw.1 3 rfl
              have s4 := strsV_cells hSw.1 4 rfl
              have s5 := strsV_cells hSw.1 5 rfl
              clear hSw
              go_simp
              try with_reducible rfl
            try simp only [Act.put, List.setIfInBounds_toArray, List.set_cons_zero, List.set_cons_succ]
          refine plan_done ?_
          have HP := hH; clear hH
          go_upto_region 11 with fail
          refine wp_region_plan (fun w' => PartsOut [a, b, c, d, e, f] none w w') [(0, true), (1, true), (2, true), (3, true), (4, true), (5, true), (6, true), (7, true), (8, true), (9, true), (10, true), (11, true), (12, true), (13, false), (14, true), (15, true), (16, true), (17, true), (18, true), (19, false), (20, true), (21, true)] (by kernel_rfl) (by kernel_rfl) rfl (by kernel_rfl) (HP.out.drewN 1) ?_
          intro w1 hH
          iterate 4
            refine plan_take (v := ?_) rfl (by rfl) ?_ ?_
            rotate_left
            · intro w2 hSw
              clear hSw
              go_simp
              try with_reducible rfl
            try simp only [Act.put, List.setIfInBounds_toArray, List.set_cons_zero, List.set_cons_succ]
          iterate 9
            refine plan_skip rfl (by rfl) ?_
            try simp only [Act.put, List.setIfInBounds_toArray, List.set_cons_zero, List.set_cons_succ]
          refine plan_skipM rfl (by rfl) hH.out ?_
          try simp only [Act.put, List.setIfInBounds_toArray, List.set_cons_zero, List.set_cons_succ]
          iterate 2
            refine plan_take (v := ?_) rfl (by rfl) ?_ ?_
            rotate_left
            · intro w2 hSw
              clear hSw
              go_simp
              try with_reducible rfl
            try simp only [Act.put, List.setIfInBounds_toArray, List.set_cons_zero, List.set_cons_succ]
          iterate 3
            refine plan_skip rfl (by rfl) ?_
            try simp only [Act.put, List.setIfInBounds_toArray, List.set_cons_zero, List.set_cons_succ]
          refine plan_skipM rfl (by rfl) hH.out ?_
          try simp only [Act.put, List.setIfInBounds_toArray, List.set_cons_zero, List.set_cons_succ]
          iterate 2
            refine plan_take (v := ?_) rfl (by rfl) ?_ ?_
            rotate_left
            · intro w2 hSw
              clear hSw
              go_simp
              try with_reducible rfl
            try simp only [Act.put, List.setIfInBounds_toArray, List.set_cons_zero, List.set_cons_succ]
          refine plan_done ?_
          have HP := hH; clear hH
          obtain ⟨p1, ⟨fy, fm, fd, fh, fi, fs, p2, p3⟩, p4, p5⟩ := HP.out
          obtain ⟨c0, c1, c2, c3, c4, c5, c6⟩ := civ_cells p2
          have P1 := Lib.hid p1; have P3 := Lib.hid p3; have P2 := Lib.hid p2
          have hone : ∀ v ∈ civV fy fm fd fh fi fs 0, v.oneCell' = true := by simp [civV, Value.oneCell']
          have Hone := Lib.hid hone
          clear p1 p2 p3 hone
          go_wp2_with (refine wpList_store_row rfl 83 _ _ rfl w.heap.size 83 (civV fy fm fd fh fi fs 0) _ (by rfl) (by rfl) p4 rfl (by kernel_rfl) Hone.out ?_; intro w9 h5 h6)
          have hbel := h6.below p5 (Nat.le_refl _)
          obtain ⟨d0, d1, d2, d3, d4, d5, d6⟩ := civ_cells h5
          exact bodyPost_ret (v := .tuple #[.agg (civV fy fm fd fh fi fs 0).toArray, .int .i64 (-1)]) (by simp [results, Tryd.results54, go_sem, civV, d0, d1, d2, d3, d4, d5, d6]) rfl ⟨PartsRes.no (by rw [HO3.out, HTr.out]; rfl) _ _ _ _ _ _, hbel⟩
      · have hce : C.toList.isEmpty = false := by rw [HCd.out]; simpa using hc0
        have hce2 : (C.toList == []) = false := by rw [HCd.out]; simpa using hc0
        have HO2 : o = none := by rw [HO.out, if_neg hc0]
        have HO3 := Lib.hid HO2
        clear HO2 hc0
        refine wp_region_plan (fun w' => PartsOut [a, b, c, d, e, f] none w w') [(0, true), (1, true), (2, true), (3, true), (4, true), (5, true), (6, true), (7, true), (8, true), (9, true), (10, true), (11, true), (12, true), (13, true), (14, true), (15, true), (16, true), (17, true), (18, true), (19, false), (20, true), (21, true), (22, true), (23, true), (24, true), (25, false), (26, true), (27, true)] (by kernel_rfl) (by kernel_rfl) rfl (by kernel_rfl) (HP.out.drewN 1) ?_
        intro w1 hH
        iterate 10
          refine plan_take (v := ?_) rfl (by rfl) ?_ ?_
          rotate_left
          · intro w2 hSw
            have s0 := strsV_cells hSw.1 0 rfl
            have s1 := strsV_cells hSw.1 1 rfl
            have s2 := strsV_cells hSw.1 2 rfl
            rw [HC.out] at s2
            have s3 := strsV_cells hSw.1 3 rfl
            have s4 := strsV_cells hSw.1 4 rfl
            have s5 := strsV_cells hSw.1 5 rfl
            clear hSw
            go_simp
            try with_reducible rfl
          try simp only [Act.put, List.setIfInBounds_toArray, List.set_cons_zero, List.set_cons_succ]
        iterate 9
          refine plan_skip rfl (by rfl) ?_
          try simp only [Act.put, List.setIfInBounds_toArray, List.set_cons_zero, List.set_cons_succ]
        refine plan_skipM rfl (by rfl) hH.out ?_
        try simp only [Act.put, List.setIfInBounds_toArray, List.set_cons_zero, List.set_cons_succ]
        iterate 2
          refine plan_take (v := ?_) rfl (by rfl) ?_ ?_
          rotate_left
          · intro w2 hSw
            have s0 := strsV_cells hSw.1 0 rfl
            have s1 := strsV_cells hSw.1 1 rfl
            have s2 := strsV_cells hSw.1 2 rfl
            rw [HC.out] at s2
            have s3 := strsV_cells hSw.1 3 rfl
            have s4 := strsV_cells hSw.1 4 rfl
            have s5 := strsV_cells hSw.1 5 rfl
            clear hSw
            go_simp
            try with_reducible rfl
          try simp only [Act.put, List.setIfInBounds_toArray, List.set_cons_zero, List.set_cons_succ]
        iterate 3
          refine plan_skip rfl (by rfl) ?_
          try simp only [Act.put, List.setIfInBounds_toArray, List.set_cons_zero, List.set_cons_succ]
        refine plan_skipM rfl (by rfl) hH.out ?_
        try simp only [Act.put, List.setIfInBounds_toArray, List.set_cons_zero, List.set_cons_succ]
        iterate 2
          refine plan_take (v := ?_) rfl (by rfl) ?_ ?_
          rotate_left
          · intro w2 hSw
            have s0 := strsV_cells hSw.1 0 rfl
            have s1 := strsV_cells hSw.1 1 rfl
            have s2 := strsV_cells hSw.1 2 rfl
            rw [HC.out] at s2
            have s3 := strsV_cells hSw.1 3 rfl
            have s4 := strsV_cells hSw.1 4 rfl
            have s5 := strsV_cells hSw.1 5 rfl
            clear hSw
            go_simp
            try with_reducible rfl
          try simp only [Act.put, List.setIfInBounds_toArray, List.set_cons_zero, List.set_cons_succ]
        refine plan_done ?_
        have HP := hH; clear hH
        go_upto_region 11 with fail
        refine wp_region_plan (fun w' => PartsOut [a, b, c, d, e, f] none w w') [(0, true), (1, true), (2, true), (3, true), (4, true), (5, true), (6, true), (7, true), (8, true), (9, true), (10, true), (11, true), (12, true), (13, false), (14, true), (15, true), (16, true), (17, true), (18, true), (19, false), (20, true), (21, true)] (by kernel_rfl) (by kernel_rfl) rfl (by kernel_rfl) (HP.out.drewN 1) ?_
        intro w1 hH
        iterate 4
          refine plan_take (v := ?_) rfl (by rfl) ?_ ?_
          rotate_left
          · intro w2 hSw
            clear hSw
            go_simp
            try with_reducible rfl
          try simp only [Act.put, List.setIfInBounds_toArray, List.set_cons_zero, List.set_cons_succ]
        iterate 9
          refine plan_skip rfl (by rfl) ?_
          try simp only [Act.put, List.setIfInBounds_toArray, List.set_cons_zero, List.set_cons_succ]
        refine plan_skipM rfl (by rfl) hH.out ?_
        try simp only [Act.put, List.setIfInBounds_toArray, List.set_cons_zero, List.set_cons_succ]
        iterate 2
          refine plan_take (v := ?_) rfl (by rfl) ?_ ?_
          rotate_left
          · intro w2 hSw
            clear hSw
            go_simp
            try with_reducible rfl
          try simp only [Act.put, List.setIfInBounds_toArray, List.set_cons_zero, List.set_cons_succ]
        iterate 3
          refine plan_skip rfl (by rfl) ?_
          try simp only [Act.put, List.setIfInBounds_toArray, List.set_cons_zero, List.set_cons_succ]
        refine plan_skipM rfl (by rfl) hH.out ?_
        try simp only [Act.put, List.setIfInBounds_toArray, List.set_cons_zero, List.set_cons_succ]
        iterate 2
          refine plan_take (v := ?_) rfl (by rfl) ?_ ?_
          rotate_left
          · intro w2 hSw
            clear hSw
            go_simp
            try with_reducible rfl
          try simp only [Act.put, List.setIfInBounds_toArray, List.set_cons_zero, List.set_cons_succ]
        refine plan_done ?_
        have HP := hH; clear hH
        obtain ⟨p1, ⟨fy, fm, fd, fh, fi, fs, p2, p3⟩, p4, p5⟩ := HP.out
        obtain ⟨c0, c1, c2, c3, c4, c5, c6⟩ := civ_cells p2
        have P1 := Lib.hid p1; have P3 := Lib.hid p3; have P2 := Lib.hid p2
        have hone : ∀ v ∈ civV fy fm fd fh fi fs 0, v.oneCell' = true := by simp [civV, Value.oneCell']
        have Hone := Lib.hid hone
        clear p1 p2 p3 hone
        go_wp2_with (refine wpList_store_row rfl 83 _ _ rfl w.heap.size 83 (civV fy fm fd fh fi fs 0) _ (by rfl) (by rfl) p4 rfl (by kernel_rfl) Hone.out ?_; intro w9 h5 h6)
        have hbel := h6.below p5 (Nat.le_refl _)
        obtain ⟨d0, d1, d2, d3, d4, d5, d6⟩ := civ_cells h5
        exact bodyPost_ret (v := .tuple #[.agg (civV fy fm fd fh fi fs 0).toArray, .int .i64 (-1)]) (by simp [results, Tryd.results54, go_sem, civV, d0, d1, d2, d3, d4, d5, d6]) rfl ⟨PartsRes.no HO3.out _ _ _ _ _ _, hbel⟩
    · rw [g1] at SF
      replace SF := Lib.hid SF
      have D1 := Lib.hid g2
      clear g1 g2
      go_enter Tryd.func54, Tryd.ntmps54
      go_upto_region 3 with (go_at_call_of 78 (Value.string s); refine (SP.out _ (shaped_below Hsh.out (((Below.refl _ _).alloc (Nat.le_refl _) _).alloc (by simp) _))).mono ?_; rintro e w2 ⟨rfl, hr2, hb2⟩; have hP := PartsOut.start hr2 hb2; have HP := Lib.hid hP; clear hr2 hb2 hP)
      refine wp_region_plan (fun w' => PartsOut [a, b, c, d, e, f] none w w') [(0, true), (1, true), (2, true), (3, true), (4, true), (5, true), (6, true), (7, false), (8, true), (9, true), (10, true), (11, true), (12, true), (13, true), (14, true), (15, true), (16, true), (17, true), (18, true), (19, false), (20, true), (21, true), (22, true), (23, true), (24, true), (25, false), (26, true), (27, true)] (by kernel_rfl) (by kernel_rfl) rfl (by kernel_rfl) (HP.out.drewN 1) ?_
      intro w1 hH
      iterate 7
        refine plan_take (v := ?_) rfl (by rfl) ?_ ?_
        rotate_left
        · intro w2 hSw
          have s0 := strsV_cells hSw.1 0 rfl
          have s1 := strsV_cells hSw.1 1 rfl
          have s2 := strsV_cells hSw.1 2 rfl
          have s3 := strsV_cells hSw.1 3 rfl
          have s4 := strsV_cells hSw.1 4 rfl
          have s5 := strsV_cells hSw.1 5 rfl
          clear hSw
          go_simp
          try with_reducible rfl
        try simp only [Act.put, List.setIfInBounds_toArray, List.set_cons_zero, List.set_cons_succ]
      refine plan_move rfl (by rfl) (fun K hK => ?_)
      go_simp
      (refine (SF.out _).mono ?_)
      rintro e w3 ⟨rfl, rfl⟩
      refine hK.out _ _ (hH.out) ?_
      clear hH hK K
      intro hH
      try simp only [Act.put, List.setIfInBounds_toArray, List.set_cons_zero, List.set_cons_succ]
      iterate 11
        refine plan_take (v := ?_) rfl (by rfl) ?_ ?_
        rotate_left
        · intro w2 hSw
          have s0 := strsV_cells hSw.1 0 rfl
          have s1 := strsV_cells hSw.1 1 rfl
          have s2 := strsV_cells hSw.1 2 rfl
          have s3 := strsV_cells hSw.1 3 rfl
          have s4 := strsV_cells hSw.1 4 rfl
          have s5 := strsV_cells hSw.1 5 rfl
          clear hSw
          go_simp
          try with_reducible rfl
        try simp only [Act.put, List.setIfInBounds_toArray, List.set_cons_zero, List.set_cons_succ]
      refine plan_move rfl (by rfl) (fun K hK => ?_)
      go_simp
      obtain ⟨_, ⟨y1, m1, e1, h1, i1, s1, p2, _⟩, _, p5⟩ := hH.out
      have C := Lib.hid (dated_spec b c d (w.heap.size + 1) y1 m1 e1 h1 i1 s1 0 _ (shaped_below Hsh.out p5) (by omega) (by omega) p2)
      (refine C.out.mono ?_)
      rintro e w3 ⟨rfl, ⟨y2, m2, e2, p6, p7⟩, p8⟩
      rw [D1.out]
      refine hK.out _ _ (hH.out.civ p8 p6 (fun q hq => by cases hq)) ?_
      have P6 := Lib.hid p6
      have P7 := Lib.hid p7
      clear hH hK K p6 p7 p8 C p2
      intro hH
      try simp only [Act.put, List.setIfInBounds_toArray, List.set_cons_zero, List.set_cons_succ]
      iterate 2
        refine plan_take (v := ?_) rfl (by rfl) ?_ ?_
        rotate_left
        · intro w2 hSw
          have s0 := strsV_cells hSw.1 0 rfl
          have s1 := strsV_cells hSw.1 1 rfl
          have s2 := strsV_cells hSw.1 2 rfl
          have s3 := strsV_cells hSw.1 3 rfl
          have s4 := strsV_cells hSw.1 4 rfl
          have s5 := strsV_cells hSw.1 5 rfl
          clear hSw
          go_simp
          try with_reducible rfl
        try simp only [Act.put, List.setIfInBounds_toArray, List.set_cons_zero, List.set_cons_succ]
      iterate 3
        refine plan_skip rfl (by rfl) ?_
        try simp only [Act.put, List.setIfInBounds_toArray, List.set_cons_zero, List.set_cons_succ]
      refine plan_skipM rfl (by rfl) hH.out ?_
      try simp only [Act.put, List.setIfInBounds_toArray, List.set_cons_zero, List.set_cons_succ]
      iterate 2
        refine plan_take (v := ?_) rfl (by rfl) ?_ ?_
        rotate_left
        · intro w2 hSw
          have s0 := strsV_cells hSw.1 0 rfl
          have s1 := strsV_cells hSw.1 1 rfl
          have s2 := strsV_cells hSw.1 2 rfl
          have s3 := strsV_cells hSw.1 3 rfl
          have s4 := strsV_cells hSw.1 4 rfl
          have s5 := strsV_cells hSw.1 5 rfl
          clear hSw
          go_simp
          try with_reducible rfl
        try simp only [Act.put, List.setIfInBounds_toArray, List.set_cons_zero, List.set_cons_succ]
      refine plan_done ?_
      have HP := hH; clear hH
      go_upto_region 9 with fail
      by_cases hc0 : c = []
      · have hce : C.toList = [] := by rw [HCd.out]; exact hc0
        have HO2 : o = (tryDT d b f e).map fun r => (2, r) := by rw [HO.out, if_pos hc0]
        have HO3 := Lib.hid HO2
        clear HO2 hc0
        by_cases h1 : (datedL d b f).isSome = true
        · have D2 := Lib.hid h1
          by_cases h2 : (timedL e).isSome = true
          · have T2 := Lib.hid h2
            obtain ⟨da, ta, hda, hta, htr⟩ := tryDT_some h1 h2
            have HDa := Lib.hid hda; have HTa := Lib.hid hta; have HTr := Lib.hid htr
            clear h1 h2 hda hta htr
            refine wp_region_plan (fun w' => PartsOut [a, b, c, d, e, f] none w w') [(0, true), (1, true), (2, true), (3, true), (4, true), (5, true), (6, true), (7, true), (8, true), (9, true), (10, true), (11, true), (12, true), (13, true), (14, true), (15, true), (16, true), (17, true), (18, true), (19, false), (20, true), (21, true), (22, true), (23, true), (24, true), (25, false), (26, true), (27, true)] (by kernel_rfl) (by kernel_rfl) rfl (by kernel_rfl) (HP.out.drewN 1) ?_
            intro w1 hH
            iterate 19
              refine plan_take (v := ?_) rfl (by rfl) ?_ ?_
              rotate_left
              · intro w2 hSw
                have s0 := strsV_cells hSw.1 0 rfl
                have s1 := strsV_cells hSw.1 1 rfl
                have s2 := strsV_cells hSw.1 2 rfl
                rw [HC.out] at s2
                have s3 := strsV_cells hSw.1 3 rfl
                have s4 := strsV_cells hSw.1 4 rfl
                have s5 := strsV_cells hSw.1 5 rfl
                clear hSw
                go_simp
                try with_reducible rfl
              try simp only [Act.put, List.setIfInBounds_toArray, List.set_cons_zero, List.set_cons_succ]
            refine plan_move rfl (by rfl) (fun K hK => ?_)
            go_simp
            obtain ⟨_, ⟨y1, m1, e1, h1, i1, s1, p2, _⟩, _, p5⟩ := hH.out
            have C := Lib.hid (dated_spec d b f (w.heap.size + 1) y1 m1 e1 h1 i1 s1 0 _ (shaped_below Hsh.out p5) (by omega) (by omega) p2)
            (refine C.out.mono ?_)
            rintro e w3 ⟨rfl, ⟨y2, m2, e2, p6, p7⟩, p8⟩
            rw [D2.out]
            refine hK.out _ _ (hH.out.civ p8 p6 (fun q hq => by cases hq)) ?_
            have P6 := Lib.hid p6
            have P7 := Lib.hid p7
            clear hH hK K p6 p7 p8 C p2
            intro hH
            try simp only [Act.put, List.setIfInBounds_toArray, List.set_cons_zero, List.set_cons_succ]
            iterate 5
              refine plan_take (v := ?_) rfl (by rfl) ?_ ?_
              rotate_left
              · intro w2 hSw
                have s0 := strsV_cells hSw.1 0 rfl
                have s1 := strsV_cells hSw.1 1 rfl
                have s2 := strsV_cells hSw.1 2 rfl
                rw [HC.out] at s2
                have s3 := strsV_cells hSw.1 3 rfl
                have s4 := strsV_cells hSw.1 4 rfl
                have s5 := strsV_cells hSw.1 5 rfl
                clear hSw
                go_simp
                try with_reducible rfl
              try simp only [Act.put, List.setIfInBounds_toArray, List.set_cons_zero, List.set_cons_succ]
            refine plan_move rfl (by rfl) (fun K hK => ?_)
            go_simp
            have C := Lib.hid (timed_spec e (w.heap.size + 1) y2 m2 e2 h1 i1 s1 0 _ (shaped_below Hsh.out hH.out.2.2.2) (by omega) P6.out)
            (refine C.out.mono ?_)
            rintro e w4 ⟨rfl, ⟨h3, i3, s3, p6, p7⟩, p8⟩
            rw [T2.out]
            refine hK.out _ _ (hH.out.civ p8 p6 (fun q hq => by cases hq)) ?_
            have HQ := Lib.hid (hH.out.civ (r' := some (da, ta)) p8 p6 (fun q hq => by rw [← Option.some.inj hq, P7.out _ HDa.out, p7 _ HTa.out]))
            clear hH hK K p6 p7 p8 C
            intro hH
            try simp only [Act.put, List.setIfInBounds_toArray, List.set_cons_zero, List.set_cons_succ]
            iterate 2
              refine plan_take (v := ?_) rfl (by rfl) ?_ ?_
              rotate_left
              · intro w2 hSw
                have s0 := strsV_cells hSw.1 0 rfl
                have s1 := strsV_cells hSw.1 1 rfl
                have s2 := strsV_cells hSw.1 2 rfl
                rw [HC.out] at s2
                have s3 := strsV_cells hSw.1 3 rfl
                have s4 := strsV_cells hSw.1 4 rfl
                have s5 := strsV_cells hSw.1 5 rfl
                clear hSw
                go_simp
                try with_reducible rfl
              try simp only [Act.put, List.setIfInBounds_toArray, List.set_cons_zero, List.set_cons_succ]
            refine plan_done ?_
            have HP := hH; clear hH
            clear HP; have HP := HQ; clear HQ
            obtain ⟨p1, ⟨fy, fm, fd, fh, fi, fs, p2, p3⟩, p4, p5⟩ := HP.out
            obtain ⟨c0, c1, c2, c3, c4, c5, c6⟩ := civ_cells p2
            have P1 := Lib.hid p1; have P3 := Lib.hid p3; have P2 := Lib.hid p2
            have hone : ∀ v ∈ civV fy fm fd fh fi fs 0, v.oneCell' = true := by simp [civV, Value.oneCell']
            have Hone := Lib.hid hone
            clear p1 p2 p3 hone
            go_wp2_with (refine wpList_store_row rfl 83 _ _ rfl w.heap.size 83 (civV fy fm fd fh fi fs 0) _ (by rfl) (by rfl) p4 rfl (by kernel_rfl) Hone.out ?_; intro w9 h5 h6)
            have hbel := h6.below p5 (Nat.le_refl _)
            obtain ⟨d0, d1, d2, d3, d4, d5, d6⟩ := civ_cells h5
            exact bodyPost_ret (v := .tuple #[.agg (civV fy fm fd fh fi fs 0).toArray, .int .i64 2]) (by simp [results, Tryd.results54, go_sem, civV, d0, d1, d2, d3, d4, d5, d6]) rfl ⟨PartsRes.yes (by rw [HO3.out, HTr.out]; rfl) (P3.out _ rfl), hbel⟩
          · have h2' : (timedL e).isSome = false := by simpa using h2
            have T2 := Lib.hid h2'
            have HTr := Lib.hid (tryDT_none (d := d) (m := b) (y := f) (t := e) (.inr h2'))
            clear h1 h2 h2'
            refine wp_region_plan (fun w' => PartsOut [a, b, c, d, e, f] none w w') [(0, true), (1, true), (2, true), (3, true), (4, true), (5, true), (6, true), (7, true), (8, true), (9, true), (10, true), (11, true), (12, true), (13, true), (14, true), (15, true), (16, true), (17, true), (18, true), (19, false), (20, true), (21, true), (22, true), (23, true), (24, true), (25, false), (26, true), (27, true)] (by kernel_rfl) (by kernel_rfl) rfl (by kernel_rfl) (HP.out.drewN 1) ?_
            intro w1 hH
            iterate 19
              refine plan_take (v := ?_) rfl (by rfl) ?_ ?_
              rotate_left
              · intro w2 hSw
                have s0 := strsV_cells hSw.1 0 rfl
                have s1 := strsV_cells hSw.1 1 rfl
                have s2 := strsV_cells hSw.1 2 rfl
                rw [HC.out] at s2
                have s3 := strsV_cells hSw.1 3 rfl
                have s4 := strsV_cells hSw.1 4 rfl
                have s5 := strsV_cells hSw.1 5 rfl
                clear hSw
                go_simp
                try with_reducible rfl
              try simp only [Act.put, List.setIfInBounds_toArray, List.set_cons_zero, List.set_cons_succ]
            refine plan_move rfl (by rfl) (fun K hK => ?_)
            go_simp
            obtain ⟨_, ⟨y1, m1, e1, h1, i1, s1, p2, _⟩, _, p5⟩ := hH.out
            have C := Lib.hid (dated_spec d b f (w.heap.size + 1) y1 m1 e1 h1 i1 s1 0 _ (shaped_below Hsh.out p5) (by omega) (by omega) p2)
            (refine C.out.mono ?_)
            rintro e w3 ⟨rfl, ⟨y2, m2, e2, p6, p7⟩, p8⟩
            rw [D2.out]
            refine hK.out _ _ (hH.out.civ p8 p6 (fun q hq => by cases hq)) ?_
            have P6 := Lib.hid p6
            have P7 := Lib.hid p7
            clear hH hK K p6 p7 p8 C p2
            intro hH
            try simp only [Act.put, List.setIfInBounds_toArray, List.set_cons_zero, List.set_cons_succ]
            iterate 5
              refine plan_take (v := ?_) rfl (by rfl) ?_ ?_
              rotate_left
              · intro w2 hSw
                have s0 := strsV_cells hSw.1 0 rfl
                have s1 := strsV_cells hSw.1 1 rfl
                have s2 := strsV_cells hSw.1 2 rfl
                rw [HC.out] at s2
                have s3 := strsV_cells hSw.1 3 rfl
                have s4 := strsV_cells hSw.1 4 rfl
                have s5 := strsV_cells hSw.1 5 rfl
                clear hSw
                go_simp
                try with_reducible rfl
              try simp only [Act.put, List.setIfInBounds_toArray, List.set_cons_zero, List.set_cons_succ]
            refine plan_move rfl (by rfl) (fun K hK => ?_)
            go_simp
            have C := Lib.hid (timed_spec e (w.heap.size + 1) y2 m2 e2 h1 i1 s1 0 _ (shaped_below Hsh.out hH.out.2.2.2) (by omega) P6.out)
            (refine C.out.mono ?_)
            rintro e w4 ⟨rfl, ⟨h3, i3, s3, p6, p7⟩, p8⟩
            rw [T2.out]
            refine hK.out _ _ (hH.out.civ p8 p6 (fun q hq => by cases hq)) ?_
            clear hH hK K p6 p7 p8 C
            intro hH
            try simp only [Act.put, List.setIfInBounds_toArray, List.set_cons_zero, List.set_cons_succ]
            iterate 2
              refine plan_take (v := ?_) rfl (by rfl) ?_ ?_
              rotate_left
              · intro w2 hSw
                have s0 := strsV_cells hSw.1 0 rfl
                have s1 := strsV_cells hSw.1 1 rfl
                have s2 := strsV_cells hSw.1 2 rfl
                rw [HC.out] at s2
                have s3 := strsV_cells hSw.1 3 rfl
                have s4 := strsV_cells hSw.1 4 rfl
                have s5 := strsV_cells hSw.1 5 rfl
                clear hSw
                go_simp
                try with_reducible rfl
              try simp only [Act.put, List.setIfInBounds_toArray, List.set_cons_zero, List.set_cons_succ]
            refine plan_done ?_
            have HP := hH; clear hH
            go_upto_region 11 with fail
            refine wp_region_plan (fun w' => PartsOut [a, b, c, d, e, f] none w w') [(0, true), (1, true), (2, true), (3, true), (4, true), (5, true), (6, true), (7, true), (8, true), (9, true), (10, true), (11, true), (12, true), (13, false), (14, true), (15, true), (16, true), (17, true), (18, true), (19, false), (20, true), (21, true)] (by kernel_rfl) (by kernel_rfl) rfl (by kernel_rfl) (HP.out.drewN 1) ?_
            intro w1 hH
            iterate 4
              refine plan_take (v := ?_) rfl (by rfl) ?_ ?_
              rotate_left
              · intro w2 hSw
                clear hSw
                go_simp
                try with_reducible rfl
              try simp only [Act.put, List.setIfInBounds_toArray, List.set_cons_zero, List.set_cons_succ]
            iterate 9
              refine plan_skip rfl (by rfl) ?_
              try simp only [Act.put, List.setIfInBounds_toArray, List.set_cons_zero, List.set_cons_succ]
            refine plan_skipM rfl (by rfl) hH.out ?_
            try simp only [Act.put, List.setIfInBounds_toArray, List.set_cons_zero, List.set_cons_succ]
            iterate 2
              refine plan_take (v := ?_) rfl (by rfl) ?_ ?_
              rotate_left
              · intro w2 hSw
                clear hSw
                go_simp
                try with_reducible rfl
              try simp only [Act.put, List.setIfInBounds_toArray, List.set_cons_zero, List.set_cons_succ]
            iterate 3
              refine plan_skip rfl (by rfl) ?_
              try simp only [Act.put, List.setIfInBounds_toArray, List.set_cons_zero, List.set_cons_succ]
            refine plan_skipM rfl (by rfl) hH.out ?_
            try simp only [Act.put, List.setIfInBounds_toArray, List.set_cons_zero, List.set_cons_succ]
            iterate 2
              refine plan_take (v := ?_) rfl (by rfl) ?_ ?_
              rotate_left
              · intro w2 hSw
                clear hSw
                go_simp
                try with_reducible rfl
              try simp only [Act.put, List.setIfInBounds_toArray, List.set_cons_zero, List.set_cons_succ]
            refine plan_done ?_
            have HP := hH; clear hH
            obtain ⟨p1, ⟨fy, fm, fd, fh, fi, fs, p2, p3⟩, p4, p5⟩ := HP.out
            obtain ⟨c0, c1, c2, c3, c4, c5, c6⟩ := civ_cells p2
            have P1 := Lib.hid p1; have P3 := Lib.hid p3; have P2 := Lib.hid p2
            have hone : ∀ v ∈ civV fy fm fd fh fi fs 0, v.oneCell' = true := by simp [civV, Value.oneCell']
            have Hone := Lib.hid hone
            clear p1 p2 p3 hone
            go_wp2_with (refine wpList_store_row rfl 83 _ _ rfl w.heap.size 83 (civV fy fm fd fh fi fs 0) _ (by rfl) (by rfl) p4 rfl (by kernel_rfl) Hone.out ?_; intro w9 h5 h6)
            have hbel := h6.below p5 (Nat.le_refl _)
            obtain ⟨d0, d1, d2, d3, d4, d5, d6⟩ := civ_cells h5
            exact bodyPost_ret (v := .tuple #[.agg (civV fy fm fd fh fi fs 0).toArray, .int .i64 (-1)]) (by simp [results, Tryd.results54, go_sem, civV, d0, d1, d2, d3, d4, d5, d6]) rfl ⟨PartsRes.no (by rw [HO3.out, HTr.out]; rfl) _ _ _ _ _ _, hbel⟩
        · have h1' : (datedL d b f).isSome = false := by simpa using h1
          have D2 := Lib.hid h1'
          have HTr := Lib.hid (tryDT_none (d := d) (m := b) (y := f) (t := e) (.inl h1'))
          clear h1 h1'
          refine wp_region_plan (fun w' => PartsOut [a, b, c, d, e, f] none w w') [(0, true), (1, true), (2, true), (3, true), (4, true), (5, true), (6, true), (7, true), (8, true), (9, true), (10, true), (11, true), (12, true), (13, true), (14, true), (15, true), (16, true), (17, true), (18, true), (19, false), (20, true), (21, true), (22, true), (23, true), (24, true), (25, false), (26, true), (27, true)] (by kernel_rfl) (by kernel_rfl) rfl (by kernel_rfl) (HP.out.drewN 1) ?_
          intro w1 hH
          iterate 19
            refine plan_take (v := ?_) rfl (by rfl) ?_ ?_
            rotate_left
            · intro w2 hSw
              have s0 := strsV_cells hSw.1 0 rfl
              have s1 := strsV_cells hSw.1 1 rfl
              have s2 := strsV_cells hSw.1 2 rfl
              rw [HC.out] at s2
              have s3 := strsV_cells hSw.1 3 rfl
              have s4 := strsV_cells hSw.1 4 rfl
              have s5 := strsV_cells hSw.1 5 rfl
              clear hSw
              go_simp
              try with_reducible rfl
            try simp only [Act.put, List.setIfInBounds_toArray, List.set_cons_zero, List.set_cons_succ]
          refine plan_move rfl (by rfl) (fun K hK => ?_)
          go_simp
          obtain ⟨_, ⟨y1, m1, e1, h1, i1, s1, p2, _⟩, _, p5⟩ := hH.out
          have C := Lib.hid (dated_spec d b f (w.heap.size + 1) y1 m1 e1 h1 i1 s1 0 _ (shaped_below Hsh.out p5) (by omega) (by omega) p2)
          (refine C.out.mono ?_)
          rintro e w3 ⟨rfl, ⟨y2, m2, e2, p6, p7⟩, p8⟩
          rw [D2.out]
          refine hK.out _ _ (hH.out.civ p8 p6 (fun q hq => by cases hq)) ?_
          have P6 := Lib.hid p6
          have P7 := Lib.hid p7
          clear hH hK K p6 p7 p8 C p2
          intro hH
          try simp only [Act.put, List.setIfInBounds_toArray, List.set_cons_zero, List.set_cons_succ]
          iterate 2
            refine plan_take (v := ?_) rfl (by rfl) ?_ ?_
            rotate_left
            · intro w2 hSw
              have s0 := strsV_cells hSw.1 0 rfl
              have s1 := strsV_cells hSw.1 1 rfl
              have s2 := strsV_cells hSw.1 2 rfl
              rw [HC.out] at s2
              have s3 := strsV_cells hSw.1 3 rfl
              have s4 := strsV_cells hSw.1 4 rfl
              have s5 := strsV_cells hSw.1 5 rfl
              clear hSw
              go_simp
              try with_reducible rfl
            try simp only [Act.put, List.setIfInBounds_toArray, List.set_cons_zero, List.set_cons_succ]
          iterate 3
            refine plan_skip rfl (by rfl) ?_
            try simp only [Act.put, List.setIfInBounds_toArray, List.set_cons_zero, List.set_cons_succ]
          refine plan_skipM rfl (by rfl) hH.out ?_
          try simp only [Act.put, List.setIfInBounds_toArray, List.set_cons_zero, List.set_cons_succ]
          iterate 2
            refine plan_take (v := ?_) rfl (by rfl) ?_ ?_
            rotate_left
            · intro w2 hSw
              have s0 := strsV_cells hSw.1 0 rfl
              have s1 := strsV_cells hSw.1 1 rfl
              have s2 := strsV_cells hSw.1 2 rfl
              rw [HC.out] at s2
              have s3 := strsV_cells hSw.1 3 rfl
              have s4 := strsV_cells hSw.1 4 rfl
              have s5 := strsV_cells hSw.1 5 rfl
              clear hSw
              go_simp
              try with_reducible rfl
            try simp only [Act.put, List.setIfInBounds_toArray, List.set_cons_zero, List.set_cons_succ]
          refine plan_done ?_
          have HP := hH; clear hH
          go_upto_region 11 with fail
          refine wp_region_plan (fun w' => PartsOut [a, b, c, d, e, f] none w w') [(0, true), (1, true), (2, true), (3, true), (4, true), (5, true), (6, true), (7, true), (8, true), (9, true), (10, true), (11, true), (12, true), (13, false), (14, true), (15, true), (16, true), (17, true), (18, true), (19, false), (20, true), (21, true)] (by kernel_rfl) (by kernel_rfl) rfl (by kernel_rfl) (HP.out.drewN 1) ?_
          intro w1 hH
          iterate 4
            refine plan_take (v := ?_) rfl (by rfl) ?_ ?_
            rotate_left
            · intro w2 hSw
              clear hSw
              go_simp
              try with_reducible rfl
            try simp only [Act.put, List.setIfInBounds_toArray, List.set_cons_zero, List.set_cons_succ]
          iterate 9
            refine plan_skip rfl (by rfl) ?_
            try simp only [Act.put, List.setIfInBounds_toArray, List.set_cons_zero, List.set_cons_succ]
          refine plan_skipM rfl (by rfl) hH.out ?_
          try simp only [Act.put, List.setIfInBounds_toArray, List.set_cons_zero, List.set_cons_succ]
          iterate 2
            refine plan_take (v := ?_) rfl (by rfl) ?_ ?_
            rotate_left
            · intro w2 hSw
              clear hSw
              go_simp
              try with_reducible rfl
            try simp only [Act.put, List.setIfInBounds_toArray, List.set_cons_zero, List.set_cons_succ]
          iterate 3
            refine plan_skip rfl (by rfl) ?_
            try simp only [Act.put, List.setIfInBounds_toArray, List.set_cons_zero, List.set_cons_succ]
          refine plan_skipM rfl (by rfl) hH.out ?_
          try simp only [Act.put, List.setIfInBounds_toArray, List.set_cons_zero, List.set_cons_succ]
          iterate 2
            refine plan_take (v := ?_) rfl (by rfl) ?_ ?_
            rotate_left
            · intro w2 hSw
              clear hSw
              go_simp
              try with_reducible rfl
            try simp only [Act.put, List.setIfInBounds_toArray, List.set_cons_zero, List.set_cons_succ]
          refine plan_done ?_
          have HP := hH; clear hH
          obtain ⟨p1, ⟨fy, fm, fd, fh, fi, fs, p2, p3⟩, p4, p5⟩ := HP.out
          obtain ⟨c0, c1, c2, c3, c4, c5, c6⟩ := civ_cells p2
          have P1 := Lib.hid p1; have P3 := Lib.hid p3; have P2 := Lib.hid p2
          have hone : ∀ v ∈ civV fy fm fd fh fi fs 0, v.oneCell' = true := by simp [civV, Value.oneCell']
          have Hone := Lib.hid hone
          clear p1 p2 p3 hone
          go_wp2_with (refine wpList_store_row rfl 83 _ _ rfl w.heap.size 83 (civV fy fm fd fh fi fs 0) _ (by rfl) (by rfl) p4 rfl (by kernel_rfl) Hone.out ?_; intro w9 h5 h6)
          have hbel := h6.below p5 (Nat.le_refl _)
          obtain ⟨d0, d1, d2, d3, d4, d5, d6⟩ := civ_cells h5
          exact bodyPost_ret (v := .tuple #[.agg (civV fy fm fd fh fi fs 0).toArray, .int .i64 (-1)]) (by simp [results, Tryd.results54, go_sem, civV, d0, d1, d2, d3, d4, d5, d6]) rfl ⟨PartsRes.no (by rw [HO3.out, HTr.out]; rfl) _ _ _ _ _ _, hbel⟩
      · have hce : C.toList.isEmpty = false := by rw [HCd.out]; simpa using hc0
        have hce2 : (C.toList == []) = false := by rw [HCd.out]; simpa using hc0
        have HO2 : o = none := by rw [HO.out, if_neg hc0]
        have HO3 := Lib.hid HO2
        clear HO2 hc0
        refine wp_region_plan (fun w' => PartsOut [a, b, c, d, e, f] none w w') [(0, true), (1, true), (2, true), (3, true), (4, true), (5, true), (6, true), (7, true), (8, true), (9, true), (10, true), (11, true), (12, true), (13, true), (14, true), (15, true), (16, true), (17, true), (18, true), (19, false), (20, true), (21, true), (22, true), (23, true), (24, true), (25, false), (26, true), (27, true)] (by kernel_rfl) (by kernel_rfl) rfl (by kernel_rfl) (HP.out.drewN 1) ?_
        intro w1 hH
        iterate 10
          refine plan_take (v := ?_) rfl (by rfl) ?_ ?_
          rotate_left
          · intro w2 hSw
            have s0 := strsV_cells hSw.1 0 rfl
            have s1 := strsV_cells hSw.1 1 rfl
            have s2 := strsV_cells hSw.1 2 rfl
            rw [HC.out] at s2
            have s3 := strsV_cells hSw.1 3 rfl
            have s4 := strsV_cells hSw.1 4 rfl
            have s5 := strsV_cells hSw.1 5 rfl
            clear hSw
            go_simp
            try with_reducible rfl
          try simp only [Act.put, List.setIfInBounds_toArray, List.set_cons_zero, List.set_cons_succ]
        iterate 9
          refine plan_skip rfl (by rfl) ?_
          try simp only [Act.put, List.setIfInBounds_toArray, List.set_cons_zero, List.set_cons_succ]
        refine plan_skipM rfl (by rfl) hH.out ?_
        try simp only [Act.put, List.setIfInBounds_toArray, List.set_cons_zero, List.set_cons_succ]
        iterate 2
          refine plan_take (v := ?_) rfl (by rfl) ?_ ?_
          rotate_left
          · intro w2 hSw
            have s0 := strsV_cells hSw.1 0 rfl
            have s1 := strsV_cells hSw.1 1 rfl
            have s2 := strsV_cells hSw.1 2 rfl
            rw [HC.out] at s2
            have s3 := strsV_cells hSw.1 3 rfl
            have s4 := strsV_cells hSw.1 4 rfl
            have s5 := strsV_cells hSw.1 5 rfl
            clear hSw
            go_simp
            try with_reducible rfl
          try simp only [Act.put, List.setIfInBounds_toArray, List.set_cons_zero, List.set_cons_succ]
        iterate 3
          refine plan_skip rfl (by rfl) ?_
          try simp only [Act.put, List.setIfInBounds_toArray, List.set_cons_zero, List.set_cons_succ]
        refine plan_skipM rfl (by rfl) hH.out ?_
        try simp only [Act.put, List.setIfInBounds_toArray, List.set_cons_zero, List.set_cons_succ]
        iterate 2
          refine plan_take (v := ?_) rfl (by rfl) ?_ ?_
          rotate_left
          · intro w2 hSw
            have s0 := strsV_cells hSw.1 0 rfl
            have s1 := strsV_cells hSw.1 1 rfl
            have s2 := strsV_cells hSw.1 2 rfl
            rw [HC.out] at s2
            have s3 := strsV_cells hSw.1 3 rfl
            have s4 := strsV_cells hSw.1 4 rfl
            have s5 := strsV_cells hSw.1 5 rfl
            clear hSw
            go_simp
            try with_reducible rfl
          try simp only [Act.put, List.setIfInBounds_toArray, List.set_cons_zero, List.set_cons_succ]
        refine plan_done ?_
        have HP := hH; clear hH
        go_upto_region 11 with fail
        refine wp_region_plan (fun w' => PartsOut [a, b, c, d, e, f] none w w') [(0, true), (1, true), (2, true), (3, true), (4, true), (5, true), (6, true), (7, true), (8, true), (9, true), (10, true), (11, true), (12, true), (13, false), (14, true), (15, true), (16, true), (17, true), (18, true), (19, false), (20, true), (21, true)] (by kernel_rfl) (by kernel_rfl) rfl (by kernel_rfl) (HP.out.drewN 1) ?_
        intro w1 hH
        iterate 4
          refine plan_take (v := ?_) rfl (by rfl) ?_ ?_
          rotate_left
          · intro w2 hSw
            clear hSw
            go_simp
            try with_reducible rfl
          try simp only [Act.put, List.setIfInBounds_toArray, List.set_cons_zero, List.set_cons_succ]
        iterate 9
          refine plan_skip rfl (by rfl) ?_
          try simp only [Act.put, List.setIfInBounds_toArray, List.set_cons_zero, List.set_cons_succ]
        refine plan_skipM rfl (by rfl) hH.out ?_
        try simp only [Act.put, List.setIfInBounds_toArray, List.set_cons_zero, List.set_cons_succ]
        iterate 2
          refine plan_take (v := ?_) rfl (by rfl) ?_ ?_
          rotate_left
          · intro w2 hSw
            clear hSw
            go_simp
            try with_reducible rfl
          try simp only [Act.put, List.setIfInBounds_toArray, List.set_cons_zero, List.set_cons_succ]
        iterate 3
          refine plan_skip rfl (by rfl) ?_
          try simp only [Act.put, List.setIfInBounds_toArray, List.set_cons_zero, List.set_cons_succ]
        refine plan_skipM rfl (by rfl) hH.out ?_
        try simp only [Act.put, List.setIfInBounds_toArray, List.set_cons_zero, List.set_cons_succ]
        iterate 2
          refine plan_take (v := ?_) rfl (by rfl) ?_ ?_
          rotate_left
          · intro w2 hSw
            clear hSw
            go_simp
            try with_reducible rfl
          try simp only [Act.put, List.setIfInBounds_toArray, List.set_cons_zero, List.set_cons_succ]
        refine plan_done ?_
        have HP := hH; clear hH
        obtain ⟨p1, ⟨fy, fm, fd, fh, fi, fs, p2, p3⟩, p4, p5⟩ := HP.out
        obtain ⟨c0, c1, c2, c3, c4, c5, c6⟩ := civ_cells p2
        have P1 := Lib.hid p1; have P3 := Lib.hid p3; have P2 := Lib.hid p2
        have hone : ∀ v ∈ civV fy fm fd fh fi fs 0, v.oneCell' = true := by simp [civV, Value.oneCell']
        have Hone := Lib.hid hone
        clear p1 p2 p3 hone
        go_wp2_with (refine wpList_store_row rfl 83 _ _ rfl w.heap.size 83 (civV fy fm fd fh fi fs 0) _ (by rfl) (by rfl) p4 rfl (by kernel_rfl) Hone.out ?_; intro w9 h5 h6)
        have hbel := h6.below p5 (Nat.le_refl _)
        obtain ⟨d0, d1, d2, d3, d4, d5, d6⟩ := civ_cells h5
        exact bodyPost_ret (v := .tuple #[.agg (civV fy fm fd fh fi fs 0).toArray, .int .i64 (-1)]) (by simp [results, Tryd.results54, go_sem, civV, d0, d1, d2, d3, d4, d5, d6]) rfl ⟨PartsRes.no HO3.out _ _ _ _ _ _, hbel⟩
    · rw [g1] at SF
      replace SF := Lib.hid SF
      have D1 := Lib.hid g2
      have T1 := Lib.hid g3
      clear g1 g2 g3
      go_enter Tryd.func54, Tryd.ntmps54
      go_upto_region 3 with (go_at_call_of 78 (Value.string s); refine (SP.out _ (shaped_below Hsh.out (((Below.refl _ _).alloc (Nat.le_refl _) _).alloc (by simp) _))).mono ?_; rintro e w2 ⟨rfl, hr2, hb2⟩; have hP := PartsOut.start hr2 hb2; have HP := Lib.hid hP; clear hr2 hb2 hP)
      refine wp_region_plan (fun w' => PartsOut [a, b, c, d, e, f] none w w') [(0, true), (1, true), (2, true), (3, true), (4, true), (5, true), (6, true), (7, false), (8, true), (9, true), (10, true), (11, true), (12, true), (13, true), (14, true), (15, true), (16, true), (17, true), (18, true), (19, false), (20, true), (21, true), (22, true), (23, true), (24, true), (25, false), (26, true), (27, true)] (by kernel_rfl) (by kernel_rfl) rfl (by kernel_rfl) (HP.out.drewN 1) ?_
      intro w1 hH
      iterate 7
        refine plan_take (v := ?_) rfl (by rfl) ?_ ?_
        rotate_left
        · intro w2 hSw
          have s0 := strsV_cells hSw.1 0 rfl
          have s1 := strsV_cells hSw.1 1 rfl
          have s2 := strsV_cells hSw.1 2 rfl
          have s3 := strsV_cells hSw.1 3 rfl
          have s4 := strsV_cells hSw.1 4 rfl
          have s5 := strsV_cells hSw.1 5 rfl
          clear hSw
          go_simp
          try with_reducible rfl
        try simp only [Act.put, List.setIfInBounds_toArray, List.set_cons_zero, List.set_cons_succ]
      refine plan_move rfl (by rfl) (fun K hK => ?_)
      go_simp
      (refine (SF.out _).mono ?_)
      rintro e w3 ⟨rfl, rfl⟩
      refine hK.out _ _ (hH.out) ?_
      clear hH hK K
      intro hH
      try simp only [Act.put, List.setIfInBounds_toArray, List.set_cons_zero, List.set_cons_succ]
      iterate 11
        refine plan_take (v := ?_) rfl (by rfl) ?_ ?_
        rotate_left
        · intro w2 hSw
          have s0 := strsV_cells hSw.1 0 rfl
          have s1 := strsV_cells hSw.1 1 rfl
          have s2 := strsV_cells hSw.1 2 rfl
          have s3 := strsV_cells hSw.1 3 rfl
          have s4 := strsV_cells hSw.1 4 rfl
          have s5 := strsV_cells hSw.1 5 rfl
          clear hSw
          go_simp
          try with_reducible rfl
        try simp only [Act.put, List.setIfInBounds_toArray, List.set_cons_zero, List.set_cons_succ]
      refine plan_move rfl (by rfl) (fun K hK => ?_)
      go_simp
      obtain ⟨_, ⟨y1, m1, e1, h1, i1, s1, p2, _⟩, _, p5⟩ := hH.out
      have C := Lib.hid (dated_spec b c d (w.heap.size + 1) y1 m1 e1 h1 i1 s1 0 _ (shaped_below Hsh.out p5) (by omega) (by omega) p2)
      (refine C.out.mono ?_)
      rintro e w3 ⟨rfl, ⟨y2, m2, e2, p6, p7⟩, p8⟩
      rw [D1.out]
      refine hK.out _ _ (hH.out.civ p8 p6 (fun q hq => by cases hq)) ?_
      have P6 := Lib.hid p6
      have P7 := Lib.hid p7
      clear hH hK K p6 p7 p8 C p2
      intro hH
      try simp only [Act.put, List.setIfInBounds_toArray, List.set_cons_zero, List.set_cons_succ]
      iterate 5
        refine plan_take (v := ?_) rfl (by rfl) ?_ ?_
        rotate_left
        · intro w2 hSw
          have s0 := strsV_cells hSw.1 0 rfl
          have s1 := strsV_cells hSw.1 1 rfl
          have s2 := strsV_cells hSw.1 2 rfl
          have s3 := strsV_cells hSw.1 3 rfl
          have s4 := strsV_cells hSw.1 4 rfl
          have s5 := strsV_cells hSw.1 5 rfl
          clear hSw
          go_simp
          try with_reducible rfl
        try simp only [Act.put, List.setIfInBounds_toArray, List.set_cons_zero, List.set_cons_succ]
      refine plan_move rfl (by rfl) (fun K hK => ?_)
      go_simp
      have C := Lib.hid (timed_spec e (w.heap.size + 1) y2 m2 e2 h1 i1 s1 0 _ (shaped_below Hsh.out hH.out.2.2.2) (by omega) P6.out)
      (refine C.out.mono ?_)
      rintro e w4 ⟨rfl, ⟨h3, i3, s3, p6, p7⟩, p8⟩
      rw [T1.out]
      refine hK.out _ _ (hH.out.civ p8 p6 (fun q hq => by cases hq)) ?_
      clear hH hK K p6 p7 p8 C
      intro hH
      try simp only [Act.put, List.setIfInBounds_toArray, List.set_cons_zero, List.set_cons_succ]
      iterate 2
        refine plan_take (v := ?_) rfl (by rfl) ?_ ?_
        rotate_left
        · intro w2 hSw
          have s0 := strsV_cells hSw.1 0 rfl
          have s1 := strsV_cells hSw.1 1 rfl
          have s2 := strsV_cells hSw.1 2 rfl
          have s3 := strsV_cells hSw.1 3 rfl
          have s4 := strsV_cells hSw.1 4 rfl
          have s5 := strsV_cells hSw.1 5 rfl
          clear hSw
          go_simp
          try with_reducible rfl
        try simp only [Act.put, List.setIfInBounds_toArray, List.set_cons_zero, List.set_cons_succ]
      refine plan_done ?_
      have HP := hH; clear hH
      go_upto_region 9 with fail
      by_cases hc0 : c = []
      · have hce : C.toList = [] := by rw [HCd.out]; exact hc0
        have HO2 : o = (tryDT d b f e).map fun r => (2, r) := by rw [HO.out, if_pos hc0]
        have HO3 := Lib.hid HO2
        clear HO2 hc0
        by_cases h1 : (datedL d b f).isSome = true
        · have D2 := Lib.hid h1
          by_cases h2 : (timedL e).isSome = true
          · have T2 := Lib.hid h2
            obtain ⟨da, ta, hda, hta, htr⟩ := tryDT_some h1 h2
            have HDa := Lib.hid hda; have HTa := Lib.hid hta; have HTr := Lib.hid htr
            clear h1 h2 hda hta htr
            refine wp_region_plan (fun w' => PartsOut [a, b, c, d, e, f] none w w') [(0, true), (1, true), (2, true), (3, true), (4, true), (5, true), (6, true), (7, true), (8, true), (9, true), (10, true), (11, true), (12, true), (13, true), (14, true), (15, true), (16, true), (17, true), (18, true), (19, false), (20, true), (21, true), (22, true), (23, true), (24, true), (25, false), (26, true), (27, true)] (by kernel_rfl) (by kernel_rfl) rfl (by kernel_rfl) (HP.out.drewN 1) ?_
            intro w1 hH
            iterate 19
              refine plan_take (v := ?_) rfl (by rfl) ?_ ?_
              rotate_left
              · intro w2 hSw
                have s0 := strsV_cells hSw.1 0 rfl
                have s1 := strsV_cells hSw.1 1 rfl
                have s2 := strsV_cells hSw.1 2 rfl
                rw [HC.out] at s2
                have s3 := strsV_cells hSw.1 3 rfl
                have s4 := strsV_cells hSw.1 4 rfl
                have s5 := strsV_cells hSw.1 5 rfl
                clear hSw
                go_simp
                try with_reducible rfl
              try simp only [Act.put, List.setIfInBounds_toArray, List.set_cons_zero, List.set_cons_succ]
            refine plan_move rfl (by rfl) (fun K hK => ?_)
            go_simp
            obtain ⟨_, ⟨y1, m1, e1, h1, i1, s1, p2, _⟩, _, p5⟩ := hH.out
            have C := Lib.hid (dated_spec d b f (w.heap.size + 1) y1 m1 e1 h1 i1 s1 0 _ (shaped_below Hsh.out p5) (by omega) (by omega) p2)
            (refine C.out.mono ?_)
            rintro e w3 ⟨rfl, ⟨y2, m2, e2, p6, p7⟩, p8⟩
            rw [D2.out]
            refine hK.out _ _ (hH.out.civ p8 p6 (fun q hq => by cases hq)) ?_
            have P6 := Lib.hid p6
            have P7 := Lib.hid p7
            clear hH hK K p6 p7 p8 C p2
            intro hH
            try simp only [Act.put, List.setIfInBounds_toArray, List.set_cons_zero, List.set_cons_succ]
            iterate 5
              refine plan_take (v := ?_) rfl (by rfl) ?_ ?_
              rotate_left
              · intro w2 hSw
                have s0 := strsV_cells hSw.1 0 rfl
                have s1 := strsV_cells hSw.1 1 rfl
                have s2 := strsV_cells hSw.1 2 rfl
                rw [HC.out] at s2
                have s3 := strsV_cells hSw.1 3 rfl
                have s4 := strsV_cells hSw.1 4 rfl
                have s5 := strsV_cells hSw.1 5 rfl
                clear hSw
                go_simp
                try with_reducible rfl
              try simp only [Act.put, List.setIfInBounds_toArray, List.set_cons_zero, List.set_cons_succ]
            refine plan_move rfl (by rfl) (fun K hK => ?_)
            go_simp
            have C := Lib.hid (timed_spec e (w.heap.size + 1) y2 m2 e2 h1 i1 s1 0 _ (shaped_below Hsh.out hH.out.2.2.2) (by omega) P6.out)
            (refine C.out.mono ?_)
            rintro e w4 ⟨rfl, ⟨h3, i3, s3, p6, p7⟩, p8⟩
            rw [T2.out]
            refine hK.out _ _ (hH.out.civ p8 p6 (fun q hq => by cases hq)) ?_
            have HQ := Lib.hid (hH.out.civ (r' := some (da, ta)) p8 p6 (fun q hq => by rw [← Option.some.inj hq, P7.out _ HDa.out, p7 _ HTa.out]))
            clear hH hK K p6 p7 p8 C
            intro hH
            try simp only [Act.put, List.setIfInBounds_toArray, List.set_cons_zero, List.set_cons_succ]
            iterate 2
              refine plan_take (v := ?_) rfl (by rfl) ?_ ?_
              rotate_left
              · intro w2 hSw
                have s0 := strsV_cells hSw.1 0 rfl
                have s1 := strsV_cells hSw.1 1 rfl
                have s2 := strsV_cells hSw.1 2 rfl
                rw [HC.out] at s2
                have s3 := strsV_cells hSw.1 3 rfl
                have s4 := strsV_cells hSw.1 4 rfl
                have s5 := strsV_cells hSw.1 5 rfl
                clear hSw
                go_simp
                try with_reducible rfl
              try simp only [Act.put, List.setIfInBounds_toArray, List.set_cons_zero, List.set_cons_succ]
            refine plan_done ?_
            have HP := hH; clear hH
            clear HP; have HP := HQ; clear HQ
            obtain ⟨p1, ⟨fy, fm, fd, fh, fi, fs, p2, p3⟩, p4, p5⟩ := HP.out
            obtain ⟨c0, c1, c2, c3, c4, c5, c6⟩ := civ_cells p2
            have P1 := Lib.hid p1; have P3 := Lib.hid p3; have P2 := Lib.hid p2
            have hone : ∀ v ∈ civV fy fm fd fh fi fs 0, v.oneCell' = true := by simp [civV, Value.oneCell']
            have Hone := Lib.hid hone
            clear p1 p2 p3 hone
            go_wp2_with (refine wpList_store_row rfl 83 _ _ rfl w.heap.size 83 (civV fy fm fd fh fi fs 0) _ (by rfl) (by rfl) p4 rfl (by kernel_rfl) Hone.out ?_; intro w9 h5 h6)
            have hbel := h6.below p5 (Nat.le_refl _)
            obtain ⟨d0, d1, d2, d3, d4, d5, d6⟩ := civ_cells h5
            exact bodyPost_ret (v := .tuple #[.agg (civV fy fm fd fh fi fs 0).toArray, .int .i64 2]) (by simp [results, Tryd.results54, go_sem, civV, d0, d1, d2, d3, d4, d5, d6]) rfl ⟨PartsRes.yes (by rw [HO3.out, HTr.out]; rfl) (P3.out _ rfl), hbel⟩
          · have h2' : (timedL e).isSome = false := by simpa using h2
            have T2 := Lib.hid h2'
            have HTr := Lib.hid (tryDT_none (d := d) (m := b) (y := f) (t := e) (.inr h2'))
            clear h1 h2 h2'
            refine wp_region_plan (fun w' => PartsOut [a, b, c, d, e, f] none w w') [(0, true), (1, true), (2, true), (3, true), (4, true), (5, true), (6, true), (7, true), (8, true), (9, true), (10, true), (11, true), (12, true), (13, true), (14, true), (15, true), (16, true), (17, true), (18, true), (19, false), (20, true), (21, true), (22, true), (23, true), (24, true), (25, false), (26, true), (27, true)] (by kernel_rfl) (by kernel_rfl) rfl (by kernel_rfl) (HP.out.drewN 1) ?_
            intro w1 hH
            iterate 19
              refine plan_take (v := ?_) rfl (by rfl) ?_ ?_
              rotate_left
              · intro w2 hSw
                have s0 := strsV_cells hSw.1 0 rfl
                have s1 := strsV_cells hSw.1 1 rfl
                have s2 := strsV_cells hSw.1 2 rfl
                rw [HC.out] at s2
                have s3 := strsV_cells hSw.1 3 rfl
                have s4 := strsV_cells hSw.1 4 rfl
                have s5 := strsV_cells hSw.1 5 rfl
                clear hSw
                go_simp
                try with_reducible rfl
              try simp only [Act.put, List.setIfInBounds_toArray, List.set_cons_zero, List.set_cons_succ]
            refine plan_move rfl (by rfl) (fun K hK => ?_)
            go_simp
            obtain ⟨_, ⟨y1, m1, e1, h1, i1, s1, p2, _⟩, _, p5⟩ := hH.out
            have C := Lib.hid (dated_spec d b f (w.heap.size + 1) y1 m1 e1 h1 i1 s1 0 _ (shaped_below Hsh.out p5) (by omega) (by omega) p2)
            (refine C.out.mono ?_)
            rintro e w3 ⟨rfl, ⟨y2, m2, e2, p6, p7⟩, p8⟩
            rw [D2.out]
            refine hK.out _ _ (hH.out.civ p8 p6 (fun q hq => by cases hq)) ?_
            have P6 := Lib.hid p6
            have P7 := Lib.hid p7
            clear hH hK K p6 p7 p8 C p2
            intro hH
            try simp only [Act.put, List.setIfInBounds_toArray, List.set_cons_zero, List.set_cons_succ]
            iterate 5
              refine plan_take (v := ?_) rfl (by rfl) ?_ ?_
              rotate_left
              · intro w2 hSw
                have s0 := strsV_cells hSw.1 0 rfl
                have s1 := strsV_cells hSw.1 1 rfl
                have s2 := strsV_cells hSw.1 2 rfl
                rw [HC.out] at s2
                have s3 := strsV_cells hSw.1 3 rfl
                have s4 := strsV_cells hSw.1 4 rfl
                have s5 := strsV_cells hSw.1 5 rfl
                clear hSw
                go_simp
                try with_reducible rfl
              try simp only [Act.put, List.setIfInBounds_toArray, List.set_cons_zero, List.set_cons_succ]
            refine plan_move rfl (by rfl) (fun K hK => ?_)
            go_simp
            have C := Lib.hid (timed_spec e (w.heap.size + 1) y2 m2 e2 h1 i1 s1 0 _ (shaped_below Hsh.out hH.out.2.2.2) (by omega) P6.out)
            (refine C.out.mono ?_)
            rintro e w4 ⟨rfl, ⟨h3, i3, s3, p6, p7⟩, p8⟩
            rw [T2.out]
            refine hK.out _ _ (hH.out.civ p8 p6 (fun q hq => by cases hq)) ?_
            clear hH hK K p6 p7 p8 C
            intro hH
            try simp only [Act.put, List.setIfInBounds_toArray, List.set_cons_zero, List.set_cons_succ]
            iterate 2
              refine plan_take (v := ?_) rfl (by rfl) ?_ ?_
              rotate_left
              · intro w2 hSw
                have s0 := strsV_cells hSw.1 0 rfl
                have s1 := strsV_cells hSw.1 1 rfl
                have s2 := strsV_cells hSw.1 2 rfl
                rw [HC.out] at s2
                have s3 := strsV_cells hSw.1 3 rfl
                have s4 := strsV_cells hSw.1 4 rfl
                have s5 := strsV_cells hSw.1 5 rfl
                clear hSw
                go_simp
                try with_reducible rfl
              try simp only [Act.put, List.setIfInBounds_toArray, List.set_cons_zero, List.set_cons_succ]
            refine plan_done ?_
            have HP := hH; clear hH
            go_upto_region 11 with fail
            refine wp_region_plan (fun w' => PartsOut [a, b, c, d, e, f] none w w') [(0, true), (1, true), (2, true), (3, true), (4, true), (5, true), (6, true), (7, true), (8, true), (9, true), (10, true), (11, true), (12, true), (13, false), (14, true), (15, true), (16, true), (17, true), (18, true), (19, false), (20, true), (21, true)] (by kernel_rfl) (by kernel_rfl) rfl (by kernel_rfl) (HP.out.drewN 1) ?_
            intro w1 hH
            iterate 4
              refine plan_take (v := ?_) rfl (by rfl) ?_ ?_
              rotate_left
              · intro w2 hSw
                clear hSw
                go_simp
                try with_reducible rfl
              try simp only [Act.put, List.setIfInBounds_toArray, List.set_cons_zero, List.set_cons_succ]
            iterate 9
              refine plan_skip rfl (by rfl) ?_
              try simp only [Act.put, List.setIfInBounds_toArray, List.set_cons_zero, List.set_cons_succ]
            refine plan_skipM rfl (by rfl) hH.out ?_
            try simp only [Act.put, List.setIfInBounds_toArray, List.set_cons_zero, List.set_cons_succ]
            iterate 2
              refine plan_take (v := ?_) rfl (by rfl) ?_ ?_
              rotate_left
              · intro w2 hSw
                clear hSw
                go_simp
                try with_reducible rfl
              try simp only [Act.put, List.setIfInBounds_toArray, List.set_cons_zero, List.set_cons_succ]
            iterate 3
              refine plan_skip rfl (by rfl) ?_
              try simp only [Act.put, List.setIfInBounds_toArray, List.set_cons_zero, List.set_cons_succ]
            refine plan_skipM rfl (by rfl) hH.out ?_
            try simp only [Act.put, List.setIfInBounds_toArray, List.set_cons_zero, List.set_cons_succ]
            iterate 2
              refine plan_take (v := ?_) rfl (by rfl) ?_ ?_
              rotate_left
              · intro w2 hSw
                clear hSw
                go_simp
                try with_reducible rfl
              try simp only [Act.put, List.setIfInBounds_toArray, List.set_cons_zero, List.set_cons_succ]
            refine plan_done ?_
            have HP := hH; clear hH
            obtain ⟨p1, ⟨fy, fm, fd, fh, fi, fs, p2, p3⟩, p4, p5⟩ := HP.out
            obtain ⟨c0, c1, c2, c3, c4, c5, c6⟩ := civ_cells p2
            have P1 := Lib.hid p1; have P3 := Lib.hid p3; have P2 := Lib.hid p2
            have hone : ∀ v ∈ civV fy fm fd fh fi fs 0, v.oneCell' = true := by simp [civV, Value.oneCell']
            have Hone := Lib.hid hone
            clear p1 p2 p3 hone
            go_wp2_with (refine wpList_store_row rfl 83 _ _ rfl w.heap.size 83 (civV fy fm fd fh fi fs 0) _ (by rfl) (by rfl) p4 rfl (by kernel_rfl) Hone.out ?_; intro w9 h5 h6)
            have hbel := h6.below p5 (Nat.le_refl _)
            obtain ⟨d0, d1, d2, d3, d4, d5, d6⟩ := civ_cells h5
            exact bodyPost_ret (v := .tuple #[.agg (civV fy fm fd fh fi fs 0).toArray, .int .i64 (-1)]) (by simp [results, Tryd.results54, go_sem, civV, d0, d1, d2, d3, d4, d5, d6]) rfl ⟨PartsRes.no (by rw [HO3.out, HTr.out]; rfl) _ _ _ _ _ _, hbel⟩
        · have h1' : (datedL d b f).isSome = false := by simpa using h1
          have D2 := Lib.hid h1'
          have HTr := Lib.hid (tryDT_none (d := d) (m := b) (y := f) (t := e) (.inl h1'))
          clear h1 h1'
          refine wp_region_plan (fun w' => PartsOut [a, b, c, d, e, f] none w w') [(0, true), (1, true), (2, true), (3, true), (4, true), (5, true), (6, true), (7, true), (8, true), (9, true), (10, true), (11, true), (12, true), (13, true), (14, true), (15, true), (16, true), (17, true), (18, true), (19, false), (20, true), (21, true), (22, true), (23, true), (24, true), (25, false), (26, true), (27, true)] (by kernel_rfl) (by kernel_rfl) rfl (by kernel_rfl) (HP.out.drewN 1) ?_
          intro w1 hH
          iterate 19
            refine plan_take (v := ?_) rfl (by rfl) ?_ ?_
            rotate_left
            · intro w2 hSw
              have s0 := strsV_cells hSw.1 0 rfl
              have s1 := strsV_cells hSw.1 1 rfl
              have s2 := strsV_cells hSw.1 2 rfl
              rw [HC.out] at s2
              have s3 := strsV_cells hSw.1 3 rfl
              have s4 := strsV_cells hSw.1 4 rfl
              have s5 := strsV_cells hSw.1 5 rfl
              clear hSw
              go_simp
              try with_reducible rfl
            try simp only [Act.put, List.setIfInBounds_toArray, List.set_cons_zero, List.set_cons_succ]
          refine plan_move rfl (by rfl) (fun K hK => ?_)
          go_simp
          obtain ⟨_, ⟨y1, m1, e1, h1, i1, s1, p2, _⟩, _, p5⟩ := hH.out
          have C := Lib.hid (dated_spec d b f (w.heap.size + 1) y1 m1 e1 h1 i1 s1 0 _ (shaped_below Hsh.out p5) (by omega) (by omega) p2)
          (refine C.out.mono ?_)
          rintro e w3 ⟨rfl, ⟨y2, m2, e2, p6, p7⟩, p8⟩
          rw [D2.out]
          refine hK.out _ _ (hH.out.civ p8 p6 (fun q hq => by cases hq)) ?_
          have P6 := Lib.hid p6
          have P7 := Lib.hid p7
          clear hH hK K p6 p7 p8 C p2
          intro hH
          try simp only [Act.put, List.setIfInBounds_toArray, List.set_cons_zero, List.set_cons_succ]
          iterate 2
            refine plan_take (v := ?_) rfl (by rfl) ?_ ?_
            rotate_left
            · intro w2 hSw
              have s0 := strsV_cells hSw.1 0 rfl
              have s1 := strsV_cells hSw.1 1 rfl
              have s2 := strsV_cells hSw.1 2 rfl
              rw [HC.out] at s2
              have s3 := strsV_cells hSw.1 3 rfl
              have s4 := strsV_cells hSw.1 4 rfl
              have s5 := strsV_cells hSw.1 5 rfl
              clear hSw
              go_simp
              try with_reducible rfl
            try simp only [Act.put, List.setIfInBounds_toArray, List.set_cons_zero, List.set_cons_succ]
          iterate 3
            refine plan_skip rfl (by rfl) ?_
            try simp only [Act.put, List.setIfInBounds_toArray, List.set_cons_zero, List.set_cons_succ]
          refine plan_skipM rfl (by rfl) hH.out ?_
          try simp only [Act.put, List.setIfInBounds_toArray, List.set_cons_zero, List.set_cons_succ]
          iterate 2
            refine plan_take (v := ?_) rfl (by rfl) ?_ ?_
            rotate_left
            · intro w2 hSw
              have s0 := strsV_cells hSw.1 0 rfl
              have s1 := strsV_cells hSw.1 1 rfl
              have s2 := strsV_cells hSw.1 2 rfl
              rw [HC.out] at s2
              have s3 := strsV_cells hSw.1 3 rfl
              have s4 := strsV_cells hSw.1 4 rfl
              have s5 := strsV_cells hSw.1 5 rfl
              clear hSw
              go_simp
              try with_reducible rfl
            try simp only [Act.put, List.setIfInBounds_toArray, List.set_cons_zero, List.set_cons_succ]
          refine plan_done ?_
          have HP := hH; clear hH
          go_upto_region 11 with fail
          refine wp_region_plan (fun w' => PartsOut [a, b, c, d, e, f] none w w') [(0, true), (1, true), (2, true), (3, true), (4, true), (5, true), (6, true), (7, true), (8, true), (9, true), (10, true), (11, true), (12, true), (13, false), (14, true), (15, true), (16, true), (17, true), (18, true), (19, false), (20, true), (21, true)] (by kernel_rfl) (by kernel_rfl) rfl (by kernel_rfl) (HP.out.drewN 1) ?_
          intro w1 hH
          iterate 4
            refine plan_take (v := ?_) rfl (by rfl) ?_ ?_
            rotate_left
            · intro w2 hSw
              clear hSw
              go_simp
              try with_reducible rfl
            try simp only [Act.put, List.setIfInBounds_toArray, List.set_cons_zero, List.set_cons_succ]
          iterate 9
            refine plan_skip rfl (by rfl) ?_
            try simp only [Act.put, List.setIfInBounds_toArray, List.set_cons_zero, List.set_cons_succ]
          refine plan_skipM rfl (by rfl) hH.out ?_
          try simp only [Act.put, List.setIfInBounds_toArray, List.set_cons_zero, List.set_cons_succ]
          iterate 2
            refine plan_take (v := ?_) rfl (by rfl) ?_ ?_
            rotate_left
            · intro w2 hSw
              clear hSw
              go_simp
              try with_reducible rfl
            try simp only [Act.put, List.setIfInBounds_toArray, List.set_cons_zero, List.set_cons_succ]
          iterate 3
            refine plan_skip rfl (by rfl) ?_
            try simp only [Act.put, List.setIfInBounds_toArray, List.set_cons_zero, List.set_cons_succ]
          refine plan_skipM rfl (by rfl) hH.out ?_
          try simp only [Act.put, List.setIfInBounds_toArray, List.set_cons_zero, List.set_cons_succ]
          iterate 2
            refine plan_take (v := ?_) rfl (by rfl) ?_ ?_
            rotate_left
            · intro w2 hSw
              clear hSw
              go_simp
              try with_reducible rfl
            try simp only [Act.put, List.setIfInBounds_toArray, List.set_cons_zero, List.set_cons_succ]
          refine plan_done ?_
          have HP := hH; clear hH
          obtain ⟨p1, ⟨fy, fm, fd, fh, fi, fs, p2, p3⟩, p4, p5⟩ := HP.out
          obtain ⟨c0, c1, c2, c3, c4, c5, c6⟩ := civ_cells p2
          have P1 := Lib.hid p1; have P3 := Lib.hid p3; have P2 := Lib.hid p2
          have hone : ∀ v ∈ civV fy fm fd fh fi fs 0, v.oneCell' = true := by simp [civV, Value.oneCell']
          have Hone := Lib.hid hone
          clear p1 p2 p3 hone
          go_wp2_with (refine wpList_store_row rfl 83 _ _ rfl w.heap.size 83 (civV fy fm fd fh fi fs 0) _ (by rfl) (by rfl) p4 rfl (by kernel_rfl) Hone.out ?_; intro w9 h5 h6)
          have hbel := h6.below p5 (Nat.le_refl _)
          obtain ⟨d0, d1, d2, d3, d4, d5, d6⟩ := civ_cells h5
          exact bodyPost_ret (v := .tuple #[.agg (civV fy fm fd fh fi fs 0).toArray, .int .i64 (-1)]) (by simp [results, Tryd.results54, go_sem, civV, d0, d1, d2, d3, d4, d5, d6]) rfl ⟨PartsRes.no (by rw [HO3.out, HTr.out]; rfl) _ _ _ _ _ _, hbel⟩
      · have hce : C.toList.isEmpty = false := by rw [HCd.out]; simpa using hc0
        have hce2 : (C.toList == []) = false := by rw [HCd.out]; simpa using hc0
        have HO2 : o = none := by rw [HO.out, if_neg hc0]
        have HO3 := Lib.hid HO2
        clear HO2 hc0
        refine wp_region_plan (fun w' => PartsOut [a, b, c, d, e, f] none w w') [(0, true), (1, true), (2, true), (3, true), (4, true), (5, true), (6, true), (7, true), (8, true), (9, true), (10, true), (11, true), (12, true), (13, true), (14, true), (15, true), (16, true), (17, true), (18, true), (19, false), (20, true), (21, true), (22, true), (23, true), (24, true), (25, false), (26, true), (27, true)] (by kernel_rfl) (by kernel_rfl) rfl (by kernel_rfl) (HP.out.drewN 1) ?_
        intro w1 hH
        iterate 10
          refine plan_take (v := ?_) rfl (by rfl) ?_ ?_
          rotate_left
          · intro w2 hSw
            have s0 := strsV_cells hSw.1 0 rfl
            have s1 := strsV_cells hSw.1 1 rfl
            have s2 := strsV_cells hSw.1 2 rfl
            rw [HC.out] at s2
            have s3 := strsV_cells hSw.1 3 rfl
            have s4 := strsV_cells hSw.1 4 rfl
            have s5 := strsV_cells hSw.1 5 rfl
            clear hSw
            go_simp
            try with_reducible rfl
          try simp only [Act.put, List.setIfInBounds_toArray, List.set_cons_zero, List.set_cons_succ]
        iterate 9
          refine plan_skip rfl (by rfl) ?_
          try simp only [Act.put, List.setIfInBounds_toArray, List.set_cons_zero, List.set_cons_succ]
        refine plan_skipM rfl (by rfl) hH.out ?_
        try simp only [Act.put, List.setIfInBounds_toArray, List.set_cons_zero, List.set_cons_succ]
        iterate 2
          refine plan_take (v := ?_) rfl (by rfl) ?_ ?_
          rotate_left
          · intro w2 hSw
            have s0 := strsV_cells hSw.1 0 rfl
            have s1 := strsV_cells hSw.1 1 rfl
            have s2 := strsV_cells hSw.1 2 rfl
            rw [HC.out] at s2
            have s3 := strsV_cells hSw.1 3 rfl
            have s4 := strsV_cells hSw.1 4 rfl
            have s5 := strsV_cells hSw.1 5 rfl
            clear hSw
            go_simp
            try with_reducible rfl
          try simp only [Act.put, List.setIfInBounds_toArray, List.set_cons_zero, List.set_cons_succ]
        iterate 3
          refine plan_skip rfl (by rfl) ?_
          try simp only [Act.put, List.setIfInBounds_toArray, List.set_cons_zero, List.set_cons_succ]
        refine plan_skipM rfl (by rfl) hH.out ?_
        try simp only [Act.put, List.setIfInBounds_toArray, List.set_cons_zero, List.set_cons_succ]
        iterate 2
          refine plan_take (v := ?_) rfl (by rfl) ?_ ?_
          rotate_left
          · intro w2 hSw
            have s0 := strsV_cells hSw.1 0 rfl
            have s1 := strsV_cells hSw.1 1 rfl
            have s2 := strsV_cells hSw.1 2 rfl
            rw [HC.out] at s2
            have s3 := strsV_cells hSw.1 3 rfl
            have s4 := strsV_cells hSw.1 4 rfl
            have s5 := strsV_cells hSw.1 5 rfl
            clear hSw
            go_simp
            try with_reducible rfl
          try simp only [Act.put, List.setIfInBounds_toArray, List.set_cons_zero, List.set_cons_succ]
        refine plan_done ?_
        have HP := hH; clear hH
        go_upto_region 11 with fail
        refine wp_region_plan (fun w' => PartsOut [a, b, c, d, e, f] none w w') [(0, true), (1, true), (2, true), (3, true), (4, true), (5, true), (6, true), (7, true), (8, true), (9, true), (10, true), (11, true), (12, true), (13, false), (14, true), (15, true), (16, true), (17, true), (18, true), (19, false), (20, true), (21, true)] (by kernel_rfl) (by kernel_rfl) rfl (by kernel_rfl) (HP.out.drewN 1) ?_
        intro w1 hH
        iterate 4
          refine plan_take (v := ?_) rfl (by rfl) ?_ ?_
          rotate_left
          · intro w2 hSw
            clear hSw
            go_simp
            try with_reducible rfl
          try simp only [Act.put, List.setIfInBounds_toArray, List.set_cons_zero, List.set_cons_succ]
        iterate 9
          refine plan_skip rfl (by rfl) ?_
          try simp only [Act.put, List.setIfInBounds_toArray, List.set_cons_zero, List.set_cons_succ]
        refine plan_skipM rfl (by rfl) hH.out ?_
        try simp only [Act.put, List.setIfInBounds_toArray, List.set_cons_zero, List.set_cons_succ]
        iterate 2
          refine plan_take (v := ?_) rfl (by rfl) ?_ ?_
          rotate_left
          · intro w2 hSw
            clear hSw
            go_simp
            try with_reducible rfl
          try simp only [Act.put, List.setIfInBounds_toArray, List.set_cons_zero, List.set_cons_succ]
        iterate 3
          refine plan_skip rfl (by rfl) ?_
          try simp only [Act.put, List.setIfInBounds_toArray, List.set_cons_zero, List.set_cons_succ]
        refine plan_skipM rfl (by rfl) hH.out ?_
        try simp only [Act.put, List.setIfInBounds_toArray, List.set_cons_zero, List.set_cons_succ]
        iterate 2
          refine plan_take (v := ?_) rfl (by rfl) ?_ ?_
          rotate_left
          · intro w2 hSw
            clear hSw
            go_simp
            try with_reducible rfl
          try simp only [Act.put, List.setIfInBounds_toArray, List.set_cons_zero, List.set_cons_succ]
        refine plan_done ?_
        have HP := hH; clear hH
        obtain ⟨p1, ⟨fy, fm, fd, fh, fi, fs, p2, p3⟩, p4, p5⟩ := HP.out
        obtain ⟨c0, c1, c2, c3, c4, c5, c6⟩ := civ_cells p2
        have P1 := Lib.hid p1; have P3 := Lib.hid p3; have P2 := Lib.hid p2
        have hone : ∀ v ∈ civV fy fm fd fh fi fs 0, v.oneCell' = true := by simp [civV, Value.oneCell']
        have Hone := Lib.hid hone
        clear p1 p2 p3 hone
        go_wp2_with (refine wpList_store_row rfl 83 _ _ rfl w.heap.size 83 (civV fy fm fd fh fi fs 0) _ (by rfl) (by rfl) p4 rfl (by kernel_rfl) Hone.out ?_; intro w9 h5 h6)
        have hbel := h6.below p5 (Nat.le_refl _)
        obtain ⟨d0, d1, d2, d3, d4, d5, d6⟩ := civ_cells h5
        exact bodyPost_ret (v := .tuple #[.agg (civV fy fm fd fh fi fs 0).toArray, .int .i64 (-1)]) (by simp [results, Tryd.results54, go_sem, civV, d0, d1, d2, d3, d4, d5, d6]) rfl ⟨PartsRes.no HO3.out _ _ _ _ _ _, hbel⟩
end Go.Proofs.YtpmidmdodjgeeaaDoor
