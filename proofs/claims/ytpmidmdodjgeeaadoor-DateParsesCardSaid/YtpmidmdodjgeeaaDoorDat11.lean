/- Walk of date.parts at four pieces. Condition: as at the others. (Printed by tools/mkparts.py.) -/
import Derived.Test.YtpmidmdodjgeeaaDoorDat10
namespace Go.Proofs.YtpmidmdodjgeeaaDoor
open Go.RowKit IH
set_option maxRecDepth 100000
set_option maxHeartbeats 8000000 in
theorem parts4 (s : ByteArray) (hs : s.size ≤ 1000000000) (a b c d : List UInt8) (hp : pieces 32 s.data.toList = [a, b, c, d]) (w : World) (hsh : w.ShapedOpen Tryd.prog) :
    Calls Tryd.prog 54 #[.string s] w fun e w' => PartsRes (partsL s.data.toList) e ∧ Below w.heap.size w w' := by
  have SP := Lib.hid (fun w hsh => Split1_any s 32 w hsh (by omega))
  have Hsh := Lib.hid hsh; clear hsh
  have hle := pieces_le 32 s.data.toList
  rw [data_len] at hle
  obtain ⟨o, ho⟩ : ∃ o, partsL s.data.toList = o := ⟨_, rfl⟩
  rw [ho]
  have hpl : partsL s.data.toList = (match pieces 45 b with | [x, y, z] => (tryDT x y z c).map fun r => (1, r) | _ => none) := by unfold partsL; rw [hp]; first | done | rfl
  rw [hp] at SP hle
  have lb := hle b (by simp)
  have lc := hle c (by simp)
  have SB := fun w hsh => Split1_any ⟨b.toArray⟩ 45 w hsh (by rw [size_mk]; omega)
  have CT : ∀ w, Calls Tryd.prog 82 #[.string ⟨b.toArray⟩, .string ⟨#[45]⟩] w fun e w' => e = .returned (.int .i64 (Lib.countByte b 45)) ∧ w = w' := fun w => (Tryd.strings_Count_one ⟨b.toArray⟩ 45 w).mono fun (e : Ending) w' ⟨h1, h2⟩ => ⟨h1, h2.symm⟩
  have hcl := pieces_count 45 b
  have hbl := pieces_le 45 b
  have e1 : (⟨b.toArray⟩ : ByteArray).data.toList = b := rfl
  rw [e1] at SB
  have e2 : Lib.countByte b 45 = b.count 45 := rfl
  rw [e2] at CT
  generalize b.count 45 = N at *
  clear hp hle e1 e2
  by_cases h3 : (pieces 45 b).length = 3
  · match hq : pieces 45 b, h3 with
    | [x, y, z], _ =>
      rw [hq] at hpl SB hbl
      have lx := hbl x (by simp)
      have lz := hbl z (by simp)
      have b2 : ((N : Int) == 2) = true := by rw [hcl] at h3; rw [beq_iff_eq]; omega
      have HO := Lib.hid (ho.symm.trans hpl)
      replace SB := Lib.hid SB
      replace CT := Lib.hid CT
      clear hcl hbl hq h3 ho hpl
      by_cases h1 : (datedL x y z).isSome = true
      · have D1 := Lib.hid h1
        by_cases h2 : (timedL c).isSome = true
        · have T1 := Lib.hid h2
          obtain ⟨da, ta, hda, hta, htr⟩ := tryDT_some h1 h2
          have HDa := Lib.hid hda; have HTa := Lib.hid hta; have HTr := Lib.hid htr
          clear h1 h2 hda hta htr
          go_enter Tryd.func54, Tryd.ntmps54
          go_upto_region 3 with (go_at_call_of 78 (Value.string s); refine (SP.out _ (shaped_below Hsh.out (((Below.refl _ _).alloc (Nat.le_refl _) _).alloc (by simp) _))).mono ?_; rintro e w2 ⟨rfl, hr2, hb2⟩; have hP := PartsOut.start hr2 hb2; have HP := Lib.hid hP; clear hr2 hb2 hP)
          refine wp_region_plan (fun w' => PartsOut [a, b, c, d] none w w') [(0, true), (1, true), (2, true), (3, true), (4, true), (5, true), (6, true), (7, false), (8, true), (9, true), (10, true), (11, true), (12, true), (13, true), (14, true), (15, true), (16, true), (17, true), (18, true), (19, false), (20, true), (21, true), (22, true), (23, true), (24, true), (25, false), (26, true), (27, true)] (by kernel_rfl) (by kernel_rfl) rfl (by kernel_rfl) (HP.out.drewN 1) ?_
          intro w1 hH
          iterate 4
            refine plan_take (v := ?_) rfl (by rfl) ?_ ?_
            rotate_left
            · intro w2 hSw
              clear hSw
              go_simp
              try with_reducible rfl
            try simp only [Act.put, List.setIfInBounds_toArray, List.set_cons_zero, List.set_cons_succ]
          iterate 3
            refine plan_skip rfl (by rfl) ?_
            try simp only [Act.put, List.setIfInBounds_toArray, List.set_cons_zero, List.set_cons_succ]
          refine plan_skipM rfl (by rfl) hH.out ?_
          try simp only [Act.put, List.setIfInBounds_toArray, List.set_cons_zero, List.set_cons_succ]
          iterate 2
            refine plan_take (v := ?_) rfl (by rfl) ?_ ?_
            rotate_left
            · intro w2 hSw
              clear hSw
              go_simp
              try with_reducible rfl
            try simp only [Act.put, List.setIfInBounds_toArray, List.set_cons_zero, List.set_cons_succ]
          iterate 9
            refine plan_skip rfl (by rfl) ?_
            try simp only [Act.put, List.setIfInBounds_toArray, List.set_cons_zero, List.set_cons_succ]
          refine plan_skipM rfl (by rfl) hH.out ?_
          try simp only [Act.put, List.setIfInBounds_toArray, List.set_cons_zero, List.set_cons_succ]
          iterate 2
            refine plan_take (v := ?_) rfl (by rfl) ?_ ?_
            rotate_left
            · intro w2 hSw
              clear hSw
              go_simp
              try with_reducible rfl
            try simp only [Act.put, List.setIfInBounds_toArray, List.set_cons_zero, List.set_cons_succ]
          iterate 3
            refine plan_skip rfl (by rfl) ?_
            try simp only [Act.put, List.setIfInBounds_toArray, List.set_cons_zero, List.set_cons_succ]
          refine plan_skipM rfl (by rfl) hH.out ?_
          try simp only [Act.put, List.setIfInBounds_toArray, List.set_cons_zero, List.set_cons_succ]
          iterate 2
            refine plan_take (v := ?_) rfl (by rfl) ?_ ?_
            rotate_left
            · intro w2 hSw
              clear hSw
              go_simp
              try with_reducible rfl
            try simp only [Act.put, List.setIfInBounds_toArray, List.set_cons_zero, List.set_cons_succ]
          refine plan_done ?_
          have HP := hH; clear hH
          have s1 := strsV_cells HP.out.1 1 rfl
          go_upto_region 7 with (first
            | (go_at_call 82; (with_reducible refine (CT.out _).mono ?_); rintro e w6 ⟨rfl, rfl⟩)
            | (go_at_call 78; refine (SB.out _ (shaped_below Hsh.out HP.out.2.2.2)).mono ?_; rintro e w7 ⟨rfl, hr7, hb7⟩; have hne7 : w1.heap.size ≠ w.heap.size + 1 := (by have := HP.out.1.lt; omega); have H7 := Lib.hid (HP.out.below hb7); have R7 := Lib.hid hr7; clear hr7 hb7))
          generalize w1.heap.size = r7 at *
          clear s1
          refine wp_region_plan (fun w' => PartsOut [a, b, c, d] none w w' ∧ RowAt w' r7 9 (strsV [x, y, z])) [(0, true), (1, true), (2, true), (3, true), (4, true), (5, true), (6, true), (7, true), (8, true), (9, false), (10, true), (11, true), (12, true), (13, true), (14, false), (15, true)] (by kernel_rfl) (by kernel_rfl) rfl (by kernel_rfl) (⟨H7.out.drewN 1, R7.out.drewN 1⟩) ?_
          intro w1 hH
          iterate 9
            refine plan_take (v := ?_) rfl (by rfl) ?_ ?_
            rotate_left
            · intro w2 hSw
              have s2 := strsV_cells hSw.1.1 2 rfl
              have t0 := strsV_cells hSw.2 0 rfl
              have t1 := strsV_cells hSw.2 1 rfl
              have t2 := strsV_cells hSw.2 2 rfl
              clear hSw
              go_simp
              try with_reducible rfl
            try simp only [Act.put, List.setIfInBounds_toArray, List.set_cons_zero, List.set_cons_succ]
          refine plan_move rfl (by rfl) (fun K hK => ?_)
          go_simp
          obtain ⟨_, ⟨y1, m1, e1, h1, i1, s1, p2, _⟩, _, p5⟩ := hH.out.1
          have C := Lib.hid (dated_spec x y z (w.heap.size + 1) y1 m1 e1 h1 i1 s1 0 _ (shaped_below Hsh.out p5) (by omega) (by omega) p2)
          (refine C.out.mono ?_)
          rintro e w3 ⟨rfl, ⟨y2, m2, e2, p6, p7⟩, p8⟩
          rw [D1.out]
          refine hK.out _ _ (⟨hH.out.1.civ p8 p6 (fun q hq => by cases hq), hH.out.2.save p8 hne7 hH.out.2.lt⟩) ?_
          have P6 := Lib.hid p6
          have P7 := Lib.hid p7
          clear hH hK K p6 p7 p8 C p2
          intro hH
          try simp only [Act.put, List.setIfInBounds_toArray, List.set_cons_zero, List.set_cons_succ]
          iterate 4
            refine plan_take (v := ?_) rfl (by rfl) ?_ ?_
            rotate_left
            · intro w2 hSw
              have s2 := strsV_cells hSw.1.1 2 rfl
              have t0 := strsV_cells hSw.2 0 rfl
              have t1 := strsV_cells hSw.2 1 rfl
              have t2 := strsV_cells hSw.2 2 rfl
              clear hSw
              go_simp
              try with_reducible rfl
            try simp only [Act.put, List.setIfInBounds_toArray, List.set_cons_zero, List.set_cons_succ]
          refine plan_move rfl (by rfl) (fun K hK => ?_)
          go_simp
          have C := Lib.hid (timed_spec c (w.heap.size + 1) y2 m2 e2 h1 i1 s1 0 _ (shaped_below Hsh.out hH.out.1.2.2.2) (by omega) P6.out)
          (refine C.out.mono ?_)
          rintro e w4 ⟨rfl, ⟨h3, i3, s3, p6, p7⟩, p8⟩
          rw [T1.out]
          refine hK.out _ _ (⟨hH.out.1.civ p8 p6 (fun q hq => by cases hq), hH.out.2.save p8 hne7 hH.out.2.lt⟩) ?_
          have HQ := Lib.hid (hH.out.1.civ (r' := some (da, ta)) p8 p6 (fun q hq => by rw [← Option.some.inj hq, P7.out _ HDa.out, p7 _ HTa.out]))
          clear hH hK K p6 p7 p8 C
          intro hH
          try simp only [Act.put, List.setIfInBounds_toArray, List.set_cons_zero, List.set_cons_succ]
          iterate 1
            refine plan_take (v := ?_) rfl (by rfl) ?_ ?_
            rotate_left
            · intro w2 hSw
              have s2 := strsV_cells hSw.1.1 2 rfl
              have t0 := strsV_cells hSw.2 0 rfl
              have t1 := strsV_cells hSw.2 1 rfl
              have t2 := strsV_cells hSw.2 2 rfl
              clear hSw
              go_simp
              try with_reducible rfl
            try simp only [Act.put, List.setIfInBounds_toArray, List.set_cons_zero, List.set_cons_succ]
          refine plan_done ?_
          have HP := Lib.hid hH.out.1; clear hH
          clear HP; have HP := HQ; clear HQ
          obtain ⟨p1, ⟨fy, fm, fd, fh, fi, fs, p2, p3⟩, p4, p5⟩ := HP.out
          obtain ⟨c0, c1, c2, c3, c4, c5, c6⟩ := civ_cells p2
          have P1 := Lib.hid p1; have P3 := Lib.hid p3; have P2 := Lib.hid p2
          have hone : ∀ v ∈ civV fy fm fd fh fi fs 0, v.oneCell' = true := by simp [civV, Value.oneCell']
          have Hone := Lib.hid hone
          clear p1 p2 p3 hone
          go_wp2_with (refine wpList_store_row rfl 83 _ _ rfl w.heap.size 83 (civV fy fm fd fh fi fs 0) _ (by rfl) (by rfl) p4 rfl (by kernel_rfl) Hone.out ?_; intro w9 h5 h6)
          have hbel := h6.below p5 (Nat.le_refl _)
          obtain ⟨d0, d1, d2, d3, d4, d5, d6⟩ := civ_cells h5
          exact bodyPost_ret (v := .tuple #[.agg (civV fy fm fd fh fi fs 0).toArray, .int .i64 1]) (by simp [results, Tryd.results54, go_sem, civV, d0, d1, d2, d3, d4, d5, d6]) rfl ⟨PartsRes.yes (by rw [HO.out, HTr.out]; rfl) (P3.out _ rfl), hbel⟩
        · have h2' : (timedL c).isSome = false := by simpa using h2
          have T1 := Lib.hid h2'
          have HTr := Lib.hid (tryDT_none (d := x) (m := y) (y := z) (t := c) (.inr h2'))
          clear h1 h2 h2'
          go_enter Tryd.func54, Tryd.ntmps54
          go_upto_region 3 with (go_at_call_of 78 (Value.string s); refine (SP.out _ (shaped_below Hsh.out (((Below.refl _ _).alloc (Nat.le_refl _) _).alloc (by simp) _))).mono ?_; rintro e w2 ⟨rfl, hr2, hb2⟩; have hP := PartsOut.start hr2 hb2; have HP := Lib.hid hP; clear hr2 hb2 hP)
          refine wp_region_plan (fun w' => PartsOut [a, b, c, d] none w w') [(0, true), (1, true), (2, true), (3, true), (4, true), (5, true), (6, true), (7, false), (8, true), (9, true), (10, true), (11, true), (12, true), (13, true), (14, true), (15, true), (16, true), (17, true), (18, true), (19, false), (20, true), (21, true), (22, true), (23, true), (24, true), (25, false), (26, true), (27, true)] (by kernel_rfl) (by kernel_rfl) rfl (by kernel_rfl) (HP.out.drewN 1) ?_
          intro w1 hH
          iterate 4
            refine plan_take (v := ?_) rfl (by rfl) ?_ ?_
            rotate_left
            · intro w2 hSw
              clear hSw
              go_simp
              try with_reducible rfl
            try simp only [Act.put, List.setIfInBounds_toArray, List.set_cons_zero, List.set_cons_succ]
          iterate 3
            refine plan_skip rfl (by rfl) ?_
            try simp only [Act.put, List.setIfInBounds_toArray, List.set_cons_zero, List.set_cons_succ]
          refine plan_skipM rfl (by rfl) hH.out ?_
          try simp only [Act.put, List.setIfInBounds_toArray, List.set_cons_zero, List.set_cons_succ]
          iterate 2
            refine plan_take (v := ?_) rfl (by rfl) ?_ ?_
            rotate_left
            · intro w2 hSw
              clear hSw
              go_simp
              try with_reducible rfl
            try simp only [Act.put, List.setIfInBounds_toArray, List.set_cons_zero, List.set_cons_succ]
          iterate 9
            refine plan_skip rfl (by rfl) ?_
            try simp only [Act.put, List.setIfInBounds_toArray, List.set_cons_zero, List.set_cons_succ]
          refine plan_skipM rfl (by rfl) hH.out ?_
          try simp only [Act.put, List.setIfInBounds_toArray, List.set_cons_zero, List.set_cons_succ]
          iterate 2
            refine plan_take (v := ?_) rfl (by rfl) ?_ ?_
            rotate_left
            · intro w2 hSw
              clear hSw
              go_simp
              try with_reducible rfl
            try simp only [Act.put, List.setIfInBounds_toArray, List.set_cons_zero, List.set_cons_succ]
          iterate 3
            refine plan_skip rfl (by rfl) ?_
            try simp only [Act.put, List.setIfInBounds_toArray, List.set_cons_zero, List.set_cons_succ]
          refine plan_skipM rfl (by rfl) hH.out ?_
          try simp only [Act.put, List.setIfInBounds_toArray, List.set_cons_zero, List.set_cons_succ]
          iterate 2
            refine plan_take (v := ?_) rfl (by rfl) ?_ ?_
            rotate_left
            · intro w2 hSw
              clear hSw
              go_simp
              try with_reducible rfl
            try simp only [Act.put, List.setIfInBounds_toArray, List.set_cons_zero, List.set_cons_succ]
          refine plan_done ?_
          have HP := hH; clear hH
          have s1 := strsV_cells HP.out.1 1 rfl
          go_upto_region 7 with (first
            | (go_at_call 82; (with_reducible refine (CT.out _).mono ?_); rintro e w6 ⟨rfl, rfl⟩)
            | (go_at_call 78; refine (SB.out _ (shaped_below Hsh.out HP.out.2.2.2)).mono ?_; rintro e w7 ⟨rfl, hr7, hb7⟩; have hne7 : w1.heap.size ≠ w.heap.size + 1 := (by have := HP.out.1.lt; omega); have H7 := Lib.hid (HP.out.below hb7); have R7 := Lib.hid hr7; clear hr7 hb7))
          generalize w1.heap.size = r7 at *
          clear s1
          refine wp_region_plan (fun w' => PartsOut [a, b, c, d] none w w' ∧ RowAt w' r7 9 (strsV [x, y, z])) [(0, true), (1, true), (2, true), (3, true), (4, true), (5, true), (6, true), (7, true), (8, true), (9, false), (10, true), (11, true), (12, true), (13, true), (14, false), (15, true)] (by kernel_rfl) (by kernel_rfl) rfl (by kernel_rfl) (⟨H7.out.drewN 1, R7.out.drewN 1⟩) ?_
          intro w1 hH
          iterate 9
            refine plan_take (v := ?_) rfl (by rfl) ?_ ?_
            rotate_left
            · intro w2 hSw
              have s2 := strsV_cells hSw.1.1 2 rfl
              have t0 := strsV_cells hSw.2 0 rfl
              have t1 := strsV_cells hSw.2 1 rfl
              have t2 := strsV_cells hSw.2 2 rfl
              clear hSw
              go_simp
              try with_reducible rfl
            try simp only [Act.put, List.setIfInBounds_toArray, List.set_cons_zero, List.set_cons_succ]
          refine plan_move rfl (by rfl) (fun K hK => ?_)
          go_simp
          obtain ⟨_, ⟨y1, m1, e1, h1, i1, s1, p2, _⟩, _, p5⟩ := hH.out.1
          have C := Lib.hid (dated_spec x y z (w.heap.size + 1) y1 m1 e1 h1 i1 s1 0 _ (shaped_below Hsh.out p5) (by omega) (by omega) p2)
          (refine C.out.mono ?_)
          rintro e w3 ⟨rfl, ⟨y2, m2, e2, p6, p7⟩, p8⟩
          rw [D1.out]
          refine hK.out _ _ (⟨hH.out.1.civ p8 p6 (fun q hq => by cases hq), hH.out.2.save p8 hne7 hH.out.2.lt⟩) ?_
          have P6 := Lib.hid p6
          have P7 := Lib.hid p7
          clear hH hK K p6 p7 p8 C p2
          intro hH
          try simp only [Act.put, List.setIfInBounds_toArray, List.set_cons_zero, List.set_cons_succ]
          iterate 4
            refine plan_take (v := ?_) rfl (by rfl) ?_ ?_
            rotate_left
            · intro w2 hSw
              have s2 := strsV_cells hSw.1.1 2 rfl
              have t0 := strsV_cells hSw.2 0 rfl
              have t1 := strsV_cells hSw.2 1 rfl
              have t2 := strsV_cells hSw.2 2 rfl
              clear hSw
              go_simp
              try with_reducible rfl
            try simp only [Act.put, List.setIfInBounds_toArray, List.set_cons_zero, List.set_cons_succ]
          refine plan_move rfl (by rfl) (fun K hK => ?_)
          go_simp
          have C := Lib.hid (timed_spec c (w.heap.size + 1) y2 m2 e2 h1 i1 s1 0 _ (shaped_below Hsh.out hH.out.1.2.2.2) (by omega) P6.out)
          (refine C.out.mono ?_)
          rintro e w4 ⟨rfl, ⟨h3, i3, s3, p6, p7⟩, p8⟩
          rw [T1.out]
          refine hK.out _ _ (⟨hH.out.1.civ p8 p6 (fun q hq => by cases hq), hH.out.2.save p8 hne7 hH.out.2.lt⟩) ?_
          clear hH hK K p6 p7 p8 C
          intro hH
          try simp only [Act.put, List.setIfInBounds_toArray, List.set_cons_zero, List.set_cons_succ]
          iterate 1
            refine plan_take (v := ?_) rfl (by rfl) ?_ ?_
            rotate_left
            · intro w2 hSw
              have s2 := strsV_cells hSw.1.1 2 rfl
              have t0 := strsV_cells hSw.2 0 rfl
              have t1 := strsV_cells hSw.2 1 rfl
              have t2 := strsV_cells hSw.2 2 rfl
              clear hSw
              go_simp
              try with_reducible rfl
            try simp only [Act.put, List.setIfInBounds_toArray, List.set_cons_zero, List.set_cons_succ]
          refine plan_done ?_
          have HP := Lib.hid hH.out.1; clear hH
          obtain ⟨p1, ⟨fy, fm, fd, fh, fi, fs, p2, p3⟩, p4, p5⟩ := HP.out
          obtain ⟨c0, c1, c2, c3, c4, c5, c6⟩ := civ_cells p2
          have P1 := Lib.hid p1; have P3 := Lib.hid p3; have P2 := Lib.hid p2
          have hone : ∀ v ∈ civV fy fm fd fh fi fs 0, v.oneCell' = true := by simp [civV, Value.oneCell']
          have Hone := Lib.hid hone
          clear p1 p2 p3 hone
          go_wp2_with (refine wpList_store_row rfl 83 _ _ rfl w.heap.size 83 (civV fy fm fd fh fi fs 0) _ (by rfl) (by rfl) p4 rfl (by kernel_rfl) Hone.out ?_; intro w9 h5 h6)
          have hbel := h6.below p5 (Nat.le_refl _)
          obtain ⟨d0, d1, d2, d3, d4, d5, d6⟩ := civ_cells h5
          exact bodyPost_ret (v := .tuple #[.agg (civV fy fm fd fh fi fs 0).toArray, .int .i64 (-1)]) (by simp [results, Tryd.results54, go_sem, civV, d0, d1, d2, d3, d4, d5, d6]) rfl ⟨PartsRes.no (by rw [HO.out, HTr.out]; rfl) _ _ _ _ _ _, hbel⟩
      · have h1' : (datedL x y z).isSome = false := by simpa using h1
        have D1 := Lib.hid h1'
        have HTr := Lib.hid (tryDT_none (d := x) (m := y) (y := z) (t := c) (.inl h1'))
        clear h1 h1'
        go_enter Tryd.func54, Tryd.ntmps54
        go_upto_region 3 with (go_at_call_of 78 (Value.string s); refine (SP.out _ (shaped_below Hsh.out (((Below.refl _ _).alloc (Nat.le_refl _) _).alloc (by simp) _))).mono ?_; rintro e w2 ⟨rfl, hr2, hb2⟩; have hP := PartsOut.start hr2 hb2; have HP := Lib.hid hP; clear hr2 hb2 hP)
        refine wp_region_plan (fun w' => PartsOut [a, b, c, d] none w w') [(0, true), (1, true), (2, true), (3, true), (4, true), (5, true), (6, true), (7, false), (8, true), (9, true), (10, true), (11, true), (12, true), (13, true), (14, true), (15, true), (16, true), (17, true), (18, true), (19, false), (20, true), (21, true), (22, true), (23, true), (24, true), (25, false), (26, true), (27, true)] (by kernel_rfl) (by kernel_rfl) rfl (by kernel_rfl) (HP.out.drewN 1) ?_
        intro w1 hH
        iterate 4
          refine plan_take (v := ?_) rfl (by rfl) ?_ ?_
          rotate_left
          · intro w2 hSw
            clear hSw
            go_simp
            try with_reducible rfl
          try simp only [Act.put, List.setIfInBounds_toArray, List.set_cons_zero, List.set_cons_succ]
        iterate 3
          refine plan_skip rfl (by rfl) ?_
          try simp only [Act.put, List.setIfInBounds_toArray, List.set_cons_zero, List.set_cons_succ]
        refine plan_skipM rfl (by rfl) hH.out ?_
        try simp only [Act.put, List.setIfInBounds_toArray, List.set_cons_zero, List.set_cons_succ]
        iterate 2
          refine plan_take (v := ?_) rfl (by rfl) ?_ ?_
          rotate_left
          · intro w2 hSw
            clear hSw
            go_simp
            try with_reducible rfl
          try simp only [Act.put, List.setIfInBounds_toArray, List.set_cons_zero, List.set_cons_succ]
        iterate 9
          refine plan_skip rfl (by rfl) ?_
          try simp only [Act.put, List.setIfInBounds_toArray, List.set_cons_zero, List.set_cons_succ]
        refine plan_skipM rfl (by rfl) hH.out ?_
        try simp only [Act.put, List.setIfInBounds_toArray, List.set_cons_zero, List.set_cons_succ]
        iterate 2
          refine plan_take (v := ?_) rfl (by rfl) ?_ ?_
          rotate_left
          · intro w2 hSw
            clear hSw
            go_simp
            try with_reducible rfl
          try simp only [Act.put, List.setIfInBounds_toArray, List.set_cons_zero, List.set_cons_succ]
        iterate 3
          refine plan_skip rfl (by rfl) ?_
          try simp only [Act.put, List.setIfInBounds_toArray, List.set_cons_zero, List.set_cons_succ]
        refine plan_skipM rfl (by rfl) hH.out ?_
        try simp only [Act.put, List.setIfInBounds_toArray, List.set_cons_zero, List.set_cons_succ]
        iterate 2
          refine plan_take (v := ?_) rfl (by rfl) ?_ ?_
          rotate_left
          · intro w2 hSw
            clear hSw
            go_simp
            try with_reducible rfl
          try simp only [Act.put, List.setIfInBounds_toArray, List.set_cons_zero, List.set_cons_succ]
        refine plan_done ?_
        have HP := hH; clear hH
        have s1 := strsV_cells HP.out.1 1 rfl
        go_upto_region 7 with (first
          | (go_at_call 82; (with_reducible refine (CT.out _).mono ?_); rintro e w6 ⟨rfl, rfl⟩)
          | (go_at_call 78; refine (SB.out _ (shaped_below Hsh.out HP.out.2.2.2)).mono ?_; rintro e w7 ⟨rfl, hr7, hb7⟩; have hne7 : w1.heap.size ≠ w.heap.size + 1 := (by have := HP.out.1.lt; omega); have H7 := Lib.hid (HP.out.below hb7); have R7 := Lib.hid hr7; clear hr7 hb7))
        generalize w1.heap.size = r7 at *
        clear s1
        refine wp_region_plan (fun w' => PartsOut [a, b, c, d] none w w' ∧ RowAt w' r7 9 (strsV [x, y, z])) [(0, true), (1, true), (2, true), (3, true), (4, true), (5, true), (6, true), (7, true), (8, true), (9, false), (10, true), (11, true), (12, true), (13, true), (14, false), (15, true)] (by kernel_rfl) (by kernel_rfl) rfl (by kernel_rfl) (⟨H7.out.drewN 1, R7.out.drewN 1⟩) ?_
        intro w1 hH
        iterate 9
          refine plan_take (v := ?_) rfl (by rfl) ?_ ?_
          rotate_left
          · intro w2 hSw
            have s2 := strsV_cells hSw.1.1 2 rfl
            have t0 := strsV_cells hSw.2 0 rfl
            have t1 := strsV_cells hSw.2 1 rfl
            have t2 := strsV_cells hSw.2 2 rfl
            clear hSw
            go_simp
            try with_reducible rfl
          try simp only [Act.put, List.setIfInBounds_toArray, List.set_cons_zero, List.set_cons_succ]
        refine plan_move rfl (by rfl) (fun K hK => ?_)
        go_simp
        obtain ⟨_, ⟨y1, m1, e1, h1, i1, s1, p2, _⟩, _, p5⟩ := hH.out.1
        have C := Lib.hid (dated_spec x y z (w.heap.size + 1) y1 m1 e1 h1 i1 s1 0 _ (shaped_below Hsh.out p5) (by omega) (by omega) p2)
        (refine C.out.mono ?_)
        rintro e w3 ⟨rfl, ⟨y2, m2, e2, p6, p7⟩, p8⟩
        rw [D1.out]
        refine hK.out _ _ (⟨hH.out.1.civ p8 p6 (fun q hq => by cases hq), hH.out.2.save p8 hne7 hH.out.2.lt⟩) ?_
        have P6 := Lib.hid p6
        have P7 := Lib.hid p7
        clear hH hK K p6 p7 p8 C p2
        intro hH
        try simp only [Act.put, List.setIfInBounds_toArray, List.set_cons_zero, List.set_cons_succ]
        iterate 1
          refine plan_take (v := ?_) rfl (by rfl) ?_ ?_
          rotate_left
          · intro w2 hSw
            have s2 := strsV_cells hSw.1.1 2 rfl
            have t0 := strsV_cells hSw.2 0 rfl
            have t1 := strsV_cells hSw.2 1 rfl
            have t2 := strsV_cells hSw.2 2 rfl
            clear hSw
            go_simp
            try with_reducible rfl
          try simp only [Act.put, List.setIfInBounds_toArray, List.set_cons_zero, List.set_cons_succ]
        iterate 3
          refine plan_skip rfl (by rfl) ?_
          try simp only [Act.put, List.setIfInBounds_toArray, List.set_cons_zero, List.set_cons_succ]
        refine plan_skipM rfl (by rfl) hH.out ?_
        try simp only [Act.put, List.setIfInBounds_toArray, List.set_cons_zero, List.set_cons_succ]
        iterate 1
          refine plan_take (v := ?_) rfl (by rfl) ?_ ?_
          rotate_left
          · intro w2 hSw
            have s2 := strsV_cells hSw.1.1 2 rfl
            have t0 := strsV_cells hSw.2 0 rfl
            have t1 := strsV_cells hSw.2 1 rfl
            have t2 := strsV_cells hSw.2 2 rfl
            clear hSw
            go_simp
            try with_reducible rfl
          try simp only [Act.put, List.setIfInBounds_toArray, List.set_cons_zero, List.set_cons_succ]
        refine plan_done ?_
        have HP := Lib.hid hH.out.1; clear hH
        obtain ⟨p1, ⟨fy, fm, fd, fh, fi, fs, p2, p3⟩, p4, p5⟩ := HP.out
        obtain ⟨c0, c1, c2, c3, c4, c5, c6⟩ := civ_cells p2
        have P1 := Lib.hid p1; have P3 := Lib.hid p3; have P2 := Lib.hid p2
        have hone : ∀ v ∈ civV fy fm fd fh fi fs 0, v.oneCell' = true := by simp [civV, Value.oneCell']
        have Hone := Lib.hid hone
        clear p1 p2 p3 hone
        go_wp2_with (refine wpList_store_row rfl 83 _ _ rfl w.heap.size 83 (civV fy fm fd fh fi fs 0) _ (by rfl) (by rfl) p4 rfl (by kernel_rfl) Hone.out ?_; intro w9 h5 h6)
        have hbel := h6.below p5 (Nat.le_refl _)
        obtain ⟨d0, d1, d2, d3, d4, d5, d6⟩ := civ_cells h5
        exact bodyPost_ret (v := .tuple #[.agg (civV fy fm fd fh fi fs 0).toArray, .int .i64 (-1)]) (by simp [results, Tryd.results54, go_sem, civV, d0, d1, d2, d3, d4, d5, d6]) rfl ⟨PartsRes.no (by rw [HO.out, HTr.out]; rfl) _ _ _ _ _ _, hbel⟩
  · have hnone : partsL s.data.toList = none := by
      rw [hpl]
      split
      · rename_i hq; exact absurd (by rw [hq]; rfl) h3
      · rfl
    have b2 : ((N : Int) == 2) = false := by rw [beq_eq_false_iff_ne]; omega
    have HO := Lib.hid (ho.symm.trans hnone)
    replace CT := Lib.hid CT
    clear hcl hbl h3 ho hpl hnone SB
    go_enter Tryd.func54, Tryd.ntmps54
    go_upto_region 3 with (go_at_call_of 78 (Value.string s); refine (SP.out _ (shaped_below Hsh.out (((Below.refl _ _).alloc (Nat.le_refl _) _).alloc (by simp) _))).mono ?_; rintro e w2 ⟨rfl, hr2, hb2⟩; have hP := PartsOut.start hr2 hb2; have HP := Lib.hid hP; clear hr2 hb2 hP)
    refine wp_region_plan (fun w' => PartsOut [a, b, c, d] none w w') [(0, true), (1, true), (2, true), (3, true), (4, true), (5, true), (6, true), (7, false), (8, true), (9, true), (10, true), (11, true), (12, true), (13, true), (14, true), (15, true), (16, true), (17, true), (18, true), (19, false), (20, true), (21, true), (22, true), (23, true), (24, true), (25, false), (26, true), (27, true)] (by kernel_rfl) (by kernel_rfl) rfl (by kernel_rfl) (HP.out.drewN 1) ?_
    intro w1 hH
    iterate 4
      refine plan_take (v := ?_) rfl (by rfl) ?_ ?_
      rotate_left
      · intro w2 hSw
        clear hSw
        go_simp
        try with_reducible rfl
      try simp only [Act.put, List.setIfInBounds_toArray, List.set_cons_zero, List.set_cons_succ]
    iterate 3
      refine plan_skip rfl (by rfl) ?_
      try simp only [Act.put, List.setIfInBounds_toArray, List.set_cons_zero, List.set_cons_succ]
    refine plan_skipM rfl (by rfl) hH.out ?_
    try simp only [Act.put, List.setIfInBounds_toArray, List.set_cons_zero, List.set_cons_succ]
    iterate 2
      refine plan_take (v := ?_) rfl (by rfl) ?_ ?_
      rotate_left
      · intro w2 hSw
        clear hSw
        go_simp
        try with_reducible rfl
      try simp only [Act.put, List.setIfInBounds_toArray, List.set_cons_zero, List.set_cons_succ]
    iterate 9
      refine plan_skip rfl (by rfl) ?_
      try simp only [Act.put, List.setIfInBounds_toArray, List.set_cons_zero, List.set_cons_succ]
    refine plan_skipM rfl (by rfl) hH.out ?_
    try simp only [Act.put, List.setIfInBounds_toArray, List.set_cons_zero, List.set_cons_succ]
    iterate 2
      refine plan_take (v := ?_) rfl (by rfl) ?_ ?_
      rotate_left
      · intro w2 hSw
        clear hSw
        go_simp
        try with_reducible rfl
      try simp only [Act.put, List.setIfInBounds_toArray, List.set_cons_zero, List.set_cons_succ]
    iterate 3
      refine plan_skip rfl (by rfl) ?_
      try simp only [Act.put, List.setIfInBounds_toArray, List.set_cons_zero, List.set_cons_succ]
    refine plan_skipM rfl (by rfl) hH.out ?_
    try simp only [Act.put, List.setIfInBounds_toArray, List.set_cons_zero, List.set_cons_succ]
    iterate 2
      refine plan_take (v := ?_) rfl (by rfl) ?_ ?_
      rotate_left
      · intro w2 hSw
        clear hSw
        go_simp
        try with_reducible rfl
      try simp only [Act.put, List.setIfInBounds_toArray, List.set_cons_zero, List.set_cons_succ]
    refine plan_done ?_
    have HP := hH; clear hH
    have s1 := strsV_cells HP.out.1 1 rfl
    go_upto_region 9 with (go_at_call 82; (with_reducible refine (CT.out _).mono ?_); rintro e w6 ⟨rfl, rfl⟩)
    clear s1
    refine wp_region_plan (fun w' => PartsOut [a, b, c, d] none w w') [(0, true), (1, true), (2, true), (3, true), (4, true), (5, true), (6, true), (7, true), (8, true), (9, true), (10, true), (11, true), (12, true), (13, true), (14, true), (15, true), (16, true), (17, true), (18, true), (19, false), (20, true), (21, true), (22, true), (23, true), (24, true), (25, false), (26, true), (27, true)] (by kernel_rfl) (by kernel_rfl) rfl (by kernel_rfl) (HP.out.drewN 1) ?_
    intro w1 hH
    iterate 4
      refine plan_take (v := ?_) rfl (by rfl) ?_ ?_
      rotate_left
      · intro w2 hSw
        clear hSw
        go_simp
        try with_reducible rfl
      try simp only [Act.put, List.setIfInBounds_toArray, List.set_cons_zero, List.set_cons_succ]
    iterate 4
      refine plan_skip rfl (by rfl) ?_
      try simp only [Act.put, List.setIfInBounds_toArray, List.set_cons_zero, List.set_cons_succ]
    iterate 2
      refine plan_take (v := ?_) rfl (by rfl) ?_ ?_
      rotate_left
      · intro w2 hSw
        clear hSw
        go_simp
        try with_reducible rfl
      try simp only [Act.put, List.setIfInBounds_toArray, List.set_cons_zero, List.set_cons_succ]
    iterate 9
      refine plan_skip rfl (by rfl) ?_
      try simp only [Act.put, List.setIfInBounds_toArray, List.set_cons_zero, List.set_cons_succ]
    refine plan_skipM rfl (by rfl) hH.out ?_
    try simp only [Act.put, List.setIfInBounds_toArray, List.set_cons_zero, List.set_cons_succ]
    iterate 2
      refine plan_take (v := ?_) rfl (by rfl) ?_ ?_
      rotate_left
      · intro w2 hSw
        clear hSw
        go_simp
        try with_reducible rfl
      try simp only [Act.put, List.setIfInBounds_toArray, List.set_cons_zero, List.set_cons_succ]
    iterate 3
      refine plan_skip rfl (by rfl) ?_
      try simp only [Act.put, List.setIfInBounds_toArray, List.set_cons_zero, List.set_cons_succ]
    refine plan_skipM rfl (by rfl) hH.out ?_
    try simp only [Act.put, List.setIfInBounds_toArray, List.set_cons_zero, List.set_cons_succ]
    iterate 2
      refine plan_take (v := ?_) rfl (by rfl) ?_ ?_
      rotate_left
      · intro w2 hSw
        clear hSw
        go_simp
        try with_reducible rfl
      try simp only [Act.put, List.setIfInBounds_toArray, List.set_cons_zero, List.set_cons_succ]
    refine plan_done ?_
    have HP := hH; clear hH
    go_upto_region 11 with fail
    refine wp_region_plan (fun w' => PartsOut [a, b, c, d] none w w') [(0, true), (1, true), (2, true), (3, true), (4, true), (5, true), (6, true), (7, true), (8, true), (9, true), (10, true), (11, true), (12, true), (13, false), (14, true), (15, true), (16, true), (17, true), (18, true), (19, false), (20, true), (21, true)] (by kernel_rfl) (by kernel_rfl) rfl (by kernel_rfl) (HP.out.drewN 1) ?_
    intro w1 hH
    iterate 4
      refine plan_take (v := ?_) rfl (by rfl) ?_ ?_
      rotate_left
      · intro w2 hSw
        clear hSw
        go_simp
        try with_reducible rfl
      try simp only [Act.put, List.setIfInBounds_toArray, List.set_cons_zero, List.set_cons_succ]
    iterate 9
      refine plan_skip rfl (by rfl) ?_
      try simp only [Act.put, List.setIfInBounds_toArray, List.set_cons_zero, List.set_cons_succ]
    refine plan_skipM rfl (by rfl) hH.out ?_
    try simp only [Act.put, List.setIfInBounds_toArray, List.set_cons_zero, List.set_cons_succ]
    iterate 2
      refine plan_take (v := ?_) rfl (by rfl) ?_ ?_
      rotate_left
      · intro w2 hSw
        clear hSw
        go_simp
        try with_reducible rfl
      try simp only [Act.put, List.setIfInBounds_toArray, List.set_cons_zero, List.set_cons_succ]
    iterate 3
      refine plan_skip rfl (by rfl) ?_
      try simp only [Act.put, List.setIfInBounds_toArray, List.set_cons_zero, List.set_cons_succ]
    refine plan_skipM rfl (by rfl) hH.out ?_
    try simp only [Act.put, List.setIfInBounds_toArray, List.set_cons_zero, List.set_cons_succ]
    iterate 2
      refine plan_take (v := ?_) rfl (by rfl) ?_ ?_
      rotate_left
      · intro w2 hSw
        clear hSw
        go_simp
        try with_reducible rfl
      try simp only [Act.put, List.setIfInBounds_toArray, List.set_cons_zero, List.set_cons_succ]
    refine plan_done ?_
    have HP := hH; clear hH
    obtain ⟨p1, ⟨fy, fm, fd, fh, fi, fs, p2, p3⟩, p4, p5⟩ := HP.out
    obtain ⟨c0, c1, c2, c3, c4, c5, c6⟩ := civ_cells p2
    have P1 := Lib.hid p1; have P3 := Lib.hid p3; have P2 := Lib.hid p2
    have hone : ∀ v ∈ civV fy fm fd fh fi fs 0, v.oneCell' = true := by simp [civV, Value.oneCell']
    have Hone := Lib.hid hone
    clear p1 p2 p3 hone
    go_wp2_with (refine wpList_store_row rfl 83 _ _ rfl w.heap.size 83 (civV fy fm fd fh fi fs 0) _ (by rfl) (by rfl) p4 rfl (by kernel_rfl) Hone.out ?_; intro w9 h5 h6)
    have hbel := h6.below p5 (Nat.le_refl _)
    obtain ⟨d0, d1, d2, d3, d4, d5, d6⟩ := civ_cells h5
    exact bodyPost_ret (v := .tuple #[.agg (civV fy fm fd fh fi fs 0).toArray, .int .i64 (-1)]) (by simp [results, Tryd.results54, go_sem, civV, d0, d1, d2, d3, d4, d5, d6]) rfl ⟨PartsRes.no HO.out _ _ _ _ _ _, hbel⟩
end Go.Proofs.YtpmidmdodjgeeaaDoor
