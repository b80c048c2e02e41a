/- Layer 3's laws: FieldLooks, walked. Condition: the world's shape; names of no more octets than a string may have. -/
import Derived.Test.YtpmidmdodjgeeaaDoorLaw03c
import Derived.Test.YtpmidmdodjgeeaaDoorFieW
import Derived.Test.YtpmidmdodjgeeaaDoorOct8
namespace Go.Proofs.YtpmidmdodjgeeaaDoor
open Go.RowKit IH
set_option maxRecDepth 100000
theorem withoutL_nil (L : List Fld) : withoutL L [] = L := by simp [withoutL]
theorem withoutL_step (L : List Fld) (N : List (List UInt8)) (k : Nat) (x : List UInt8) (hk : N[k]? = some x) : withoutL L (N.take (k + 1)) = withoutL (withoutL L (N.take k)) [x] := by
  rw [← without_fold (N.take (k + 1)), List.take_add_one, hk, List.foldl_append, without_fold, without_fold]
  rfl
theorem one_cases (L : List Fld) (x : List UInt8) : (∃ y, getL L x = [y] ∧ oneL L x = (y, true)) ∨ ((getL L x).length ≠ 1 ∧ oneL L x = ([], false)) := by
  unfold oneL
  match getL L x with
  | [] => right; simp
  | [y] => left; exact ⟨y, rfl, rfl⟩
  | _ :: _ :: _ => right; simp
theorem sameL_refl (L : List (List UInt8)) : sameL L L = true := by unfold sameL; simp
set_option maxHeartbeats 8000000 in
theorem looks_walk (w : World) (hsh : w.ShapedOpen Tryd.prog) (A1 : Option Addr) (n1 c1 : Nat) (L : List Fld) (h1 : SliceIn w w.heap.size 2 A1 n1 c1 (fldsV L)) (A2 : Option Addr) (n2 c2 : Nat) (K : List Fld) (h2 : SliceIn w w.heap.size 2 A2 n2 c2 (fldsV K))
    (A3 : Option Addr) (n3 c3 : Nat) (N : List (List UInt8)) (h3 : SliceIn w w.heap.size 1 A3 n3 c3 (strsV N)) (hbig : smallS 9223372036854775807 N) :
    Calls Tryd.prog 5 #[.slice A1 n1 c1, .slice A2 n2 c2, .slice A3 n3 c3] w fun e w' => e = .returned (.bool true) ∧ Below w.heap.size w w' := by
  have AW := Lib.hid (fun w hsh => awake03_any w hsh)
  have Hsh := Lib.hid hsh
  have H1 := Lib.hid h1
  have H2 := Lib.hid h2
  have H3 := Lib.hid h3
  have hl1 := fld_count h1
  have hl2 := fld_count h2
  have hl3 := str_count h3
  clear hsh h1 h2 h3
  have SA := fun w1 (hb : Below w.heap.size w w1) => short_any A1 n1 c1 L 40 w.heap.size w1 (H1.out.below hb) (by omega)
  have SB := fun w1 (hb : Below w.heap.size w w1) => short_any A2 n2 c2 K 10 w.heap.size w1 (H2.out.below hb) (by omega)
  cases q1 : shortL 40 L
  · rw [q1] at SA
    replace SA := Lib.hid SA
    clear q1 hl1 hl2 hl3 SB hbig
    go_enter Tryd.func5, Tryd.ntmps5
    go_wp2_with fail
    refine (AW.out _ Hsh.out).mono ?_
    rintro e w2 ⟨rfl, hb2⟩
    have B2 := Lib.hid hb2; clear hb2
    go_wp2_with (go_at_call 17; refine (SA.out _ B2.out).mono ?_; rintro e w3 ⟨rfl, rfl⟩)
    refine (AW.out _ (shaped_below Hsh.out B2.out)).mono ?_
    rintro e w4 ⟨rfl, hb4⟩
    go_wp2
    go_ret
    exact ⟨rfl, below_step B2.out hb4⟩
  · rw [q1] at SA
    replace SA := Lib.hid SA
    cases q2 : shortL 10 K
    · rw [q2] at SB
      replace SB := Lib.hid SB
      clear q1 q2 hl1 hl2 hl3 hbig
      go_enter Tryd.func5, Tryd.ntmps5
      go_wp2_with fail
      refine (AW.out _ Hsh.out).mono ?_
      rintro e w2 ⟨rfl, hb2⟩
      have B2 := Lib.hid hb2; clear hb2
      go_wp2_with (first
        | (go_at_call 17; (with_reducible refine (SA.out _ B2.out).mono ?_); rintro e w3 ⟨rfl, rfl⟩)
        | (go_at_call 17; (with_reducible refine (SB.out _ B2.out).mono ?_); rintro e w3 ⟨rfl, rfl⟩))
      refine (AW.out _ (shaped_below Hsh.out B2.out)).mono ?_
      rintro e w4 ⟨rfl, hb4⟩
      go_wp2
      go_ret
      exact ⟨rfl, below_step B2.out hb4⟩
    · rw [q2] at SB
      replace SB := Lib.hid SB
      by_cases h3 : 10 < n3
      · have h3I : (10 : Int) < (n3 : Int) := by omega
        clear q1 q2 hl1 hl2 hl3 h3 hbig
        go_enter Tryd.func5, Tryd.ntmps5
        go_wp2_with fail
        refine (AW.out _ Hsh.out).mono ?_
        rintro e w2 ⟨rfl, hb2⟩
        have B2 := Lib.hid hb2; clear hb2
        go_wp2_with (first
          | (go_at_call 17; (with_reducible refine (SA.out _ B2.out).mono ?_); rintro e w3 ⟨rfl, rfl⟩)
          | (go_at_call 17; (with_reducible refine (SB.out _ B2.out).mono ?_); rintro e w3 ⟨rfl, rfl⟩))
        refine (AW.out _ (shaped_below Hsh.out B2.out)).mono ?_
        rintro e w4 ⟨rfl, hb4⟩
        go_wp2
        go_ret
        exact ⟨rfl, below_step B2.out hb4⟩
      · have h3I : (n3 : Int) ≤ (10 : Int) := by omega
        have h3N : n3 ≤ 10 := by omega
        obtain ⟨p1, p2⟩ := shortL_small q1
        obtain ⟨p3, p4⟩ := shortL_small q2
        have hn1 : n1 ≤ 40 := by omega
        have hn2 : n2 ≤ 10 := by omega
        have M1 := smallF_mono p2 (show 2000 ≤ 1000000000 by omega)
        have M2 := smallF_mono p4 (show 2000 ≤ 1000000000 by omega)
        have HWB := Lib.hid (withL_bd M1 M2)
        have hwl := without_length_le L N
        obtain ⟨Wa, hWa⟩ : ∃ W, withoutL L N = W := ⟨_, rfl⟩
        obtain ⟨Wb, hWb⟩ : ∃ W, withL L K = W := ⟨_, rfl⟩
        obtain ⟨na, hna⟩ : ∃ n, Wa.length = n := ⟨_, rfl⟩
        obtain ⟨nb, hnb⟩ : ∃ n, Wb.length = n := ⟨_, rfl⟩
        have hna40 : na ≤ 40 := by rw [← hna, ← hWa]; omega
        have hnb50 : nb ≤ 50 := by
          have := (HWB.out K.length (Nat.le_refl _)).2
          rw [List.take_length, hWb, hnb] at this
          omega
        have HWa := Lib.hid hWa
        have HWb := Lib.hid hWb
        have Hna := Lib.hid hna
        have Hnb := Lib.hid hnb
        have Hl1 := Lib.hid hl1
        have Hl2 := Lib.hid hl2
        have Hl3 := Lib.hid hl3
        have Hbig := Lib.hid hbig
        replace M1 := Lib.hid M1
        replace M2 := Lib.hid M2
        clear q1 q2 p1 p2 p3 p4 hwl hWa hWb hna hnb h3 hl1 hl2 hl3 hbig
        go_enter Tryd.func5, Tryd.ntmps5
        go_wp2_with fail
        refine (AW.out _ Hsh.out).mono ?_
        rintro e w2 ⟨rfl, hb2⟩
        have B2 := Lib.hid hb2; clear hb2
        have Hown := Lib.hid (World.ownsRow_lit (base := w2.heap.size) (e := 44) (size := 2) w2 #[] 0 (Nat.le_refl _) (by simp [maxLen]) rfl)
        have hB2 := B2.out.size
        have B2a := Lib.hid (B2.out.alloc hB2 (.cells #[] 44))
        go_wp2_with (first
          | (go_at_call 17; (with_reducible refine (SA.out _ B2.out).mono ?_); rintro e w3 ⟨rfl, rfl⟩)
          | (go_at_call 17; (with_reducible refine (SB.out _ B2.out).mono ?_); rintro e w3 ⟨rfl, rfl⟩)
          | (at_builtin; refine wpList_appN fld_ty rfl _ _ rfl w2.heap.size _ 0 [] rfl Hown.out (by intro h; cases h) w.heap.size A1 n1 c1 (fldsV L) rfl (H1.out.below B2a.out) (fldsV_one L) (by omega) (by simp only [maxLen]; omega) (by simp) ?_; intro g3 cap3 w3 hown3 hgr3; rw [Nat.zero_add, List.nil_append] at hown3; simp only [Nat.zero_add]; have B3 := Lib.hid (B2a.out.grown hgr3 (by simp; omega) (fun q hq => by have := (Hown.out.lt q hq).1; omega)); have R3 := Lib.hid (SliceIn.of_own hown3); clear hown3 hgr3; have WO := Without_big (some ⟨g3, 0, none⟩) n1 cap3 L A3 n3 c3 N w3 R3.out (by omega) M1.out ((H3.out.below B3.out).more B3.out.size) (by omega) Hbig.out; rw [HWa.out, Hna.out] at WO; replace WO := Lib.hid WO)
          | (go_at_call 19; refine WO.out.mono ?_; rintro e w4 ⟨v4, rfl, hrow4, hb4⟩; have B4 := Lib.hid (below_step B3.out hb4); have R4 := Lib.hid ((R3.out.below hb4).more hb4.size); obtain ⟨A4, C4, rfl, hsl4⟩ := own_slice hrow4; have Q4 := Lib.hid hsl4; clear hrow4 hb4 hsl4 WO; have WI := With_any (some ⟨g3, 0, none⟩) n1 cap3 L A2 n2 c2 K w4 R4.out (by omega) M1.out ((H2.out.below B4.out).more B4.out.size) (by omega) M2.out; rw [HWb.out, Hnb.out] at WI; replace WI := Lib.hid WI)
          | (go_at_call 21; refine WI.out.mono ?_; rintro e w5 ⟨v5, rfl, hrow5, hb5⟩; have B5 := Lib.hid (below_step B4.out hb5); have R5 := Lib.hid ((R4.out.below hb5).more hb5.size); have Qa := Lib.hid ((Q4.out.below hb5).more hb5.size); obtain ⟨A5, C5, rfl, hsl5⟩ := own_slice hrow5; have Qb := Lib.hid hsl5; clear hrow5 hb5 hsl5 WI))
        clear SA SB AW Hown hB2 B2a B3 R3 B4 R4 Q4
        go_loopw [10, 12] (fun v i wr => ∃ (k : Nat) (Ax : Option Addr) (nx cx : Nat), k ≤ n3 ∧ i = .int .i64 k ∧ v = .slice Ax nx cx ∧ SliceIn wr wr.heap.size 2 Ax nx cx (fldsV (withoutL L (N.take k))) ∧ Below w5.heap.size w5 wr) (fun _ i _ => n3 - (intOf i).toNat)
        case atStart => exact ⟨0, A1, n1, c1, by omega, rfl, rfl, by rw [List.take_zero, withoutL_nil]; exact (H1.out.below B5.out).more B5.out.size, Below.refl _ _⟩
        case round =>
          obtain ⟨k, Ax, nx, cx, hk, rfl, rfl, hsx, hbel⟩ := hrel
          have Hx := Lib.hid hsx
          have D := Lib.hid hbel
          have Bw := Lib.hid (below_step B5.out hbel)
          clear hsx hbel
          by_cases hlt : k < n3
          · obtain ⟨x, hx⟩ : ∃ x, N[k]? = some x := ⟨_, List.getElem?_eq_getElem (by rw [Hl3.out]; omega)⟩
            obtain ⟨b, off, rfl, hb, c0⟩ := str_at (H3.out.below Bw.out) hx
            obtain ⟨S, hS⟩ : ∃ S : ByteArray, (⟨x.toArray⟩ : ByteArray) = S := ⟨_, rfl⟩
            have hSd : S.data.toList = x := by rw [← hS]
            rw [hS] at c0
            by_cases h5 : 500 < S.size
            · have h5I : (500 : Int) < (S.size : Int) := by omega
              clear hx hS hSd h5
              go_wp2
              go_ret
              exact ⟨rfl, Bw.out⟩
            · have h5I : (S.size : Int) ≤ (500 : Int) := by omega
              have h5N : S.size ≤ 1000000000 := by omega
              have hbw : b < w5.heap.size := Nat.lt_of_lt_of_le hb B5.out.size
              have c5 : w5.cell? ⟨b, off + k, none⟩ = some (.string S) := by rw [← D.out.cell (p := ⟨b, off + k, none⟩) hbw]; exact c0
              have C5' := Lib.hid c5
              have hxl := fld_count Hx.out
              have hxl2 := without_length_le L (N.take k)
              have hl1 := Hl1.out
              have hx40 : nx ≤ 40 := by omega
              have hstep := withoutL_step L N k x hx
              have MV := without_small (N.take k) M1.out
              have RW := refWithout_any Ax nx cx (withoutL L (N.take k)) S wr Hx.out (by omega) MV h5N
              rw [hSd, ← hstep] at RW
              have GA := fun w1 (hb : Below w5.heap.size w5 w1) => Get_any (some ⟨g3, 0, none⟩) n1 cap3 L S w1 ((R5.out.below hb).more hb.size) (by omega) M1.out h5N
              have ON := fun w1 (hb : Below w5.heap.size w5 w1) => One_any (some ⟨g3, 0, none⟩) n1 cap3 L S w1 ((R5.out.below hb).more hb.size) (by omega) M1.out h5N
              have GR := fun w1 (hb : Below w5.heap.size w5 w1) => refGet_any A1 n1 c1 L S w1 ((H1.out.below (below_step B5.out hb)).more (below_step B5.out hb).size) (by omega) M1.out h5N
              rw [hSd] at GA ON GR
              have hone := one_cases L x
              have hgl := get_length L x
              obtain ⟨G, hG⟩ : ∃ G, getL L x = G := ⟨_, rfl⟩
              rw [hG] at GA GR hone hgl
              obtain ⟨V2, hV2⟩ : ∃ V, withoutL L (N.take (k + 1)) = V := ⟨_, rfl⟩
              rw [hV2] at RW
              have HV2 := Lib.hid hV2
              replace RW := Lib.hid RW
              replace GA := Lib.hid GA
              replace GR := Lib.hid GR
              clear hstep MV hxl hxl2 hx hS hSd h5 hG hV2 c5
              rcases hone with ⟨y, rfl, ho⟩ | ⟨hg1, ho⟩
              · obtain ⟨Y, hY⟩ : ∃ Y : ByteArray, (⟨y.toArray⟩ : ByteArray) = Y := ⟨_, rfl⟩
                have ON2 : Hid (∀ w1, Below w5.heap.size w5 w1 → Calls Tryd.prog 23 #[.slice (some ⟨g3, 0, none⟩) n1 cap3, .string S] w1 fun e w' => e = .returned (.tuple #[.string Y, .bool true]) ∧ Below w1.heap.size w1 w') := Lib.hid fun w1 hb => by
                  have := ON w1 hb
                  rw [ho] at this
                  rw [← hY]
                  exact this
                have HY := Lib.hid hY
                clear ON ho hgl hY hl1
                go_wp2_with (first
                  | (go_at_call 22; refine RW.out.mono ?_; rintro e w6 ⟨v6, rfl, hrow6, hb6⟩; have D6 := Lib.hid (below_step D.out hb6); obtain ⟨A6, C6, rfl, hsl6⟩ := own_slice hrow6; have Q6 := Lib.hid hsl6; have k6 := (D6.out.cell (p := ⟨b, off + k, none⟩) hbw).trans C5'.out; clear hrow6 hb6 hsl6)
                  | (go_at_call 18; refine (GA.out _ D6.out).mono ?_; rintro e w7 ⟨v7, rfl, hrow7, hb7⟩; have D7 := Lib.hid (below_step D6.out hb7); have P7 := Lib.hid ((Q6.out.below hb7).more hb7.size); obtain ⟨A7, C7, rfl, hsl7⟩ := own_slice hrow7; have Q7 := Lib.hid hsl7; have k7 := (D7.out.cell (p := ⟨b, off + k, none⟩) hbw).trans C5'.out; clear hrow7 hb7 hsl7)
                  | (go_at_call 23; refine (ON2.out _ D7.out).mono ?_; rintro e w8 ⟨rfl, hb8⟩; have D8 := Lib.hid (below_step D7.out hb8); have P8 := Lib.hid ((P7.out.below hb8).more hb8.size); have Q8 := Lib.hid ((Q7.out.below hb8).more hb8.size); have k8 := (D8.out.cell (p := ⟨b, off + k, none⟩) hbw).trans C5'.out; clear hb8)
                  | (go_at_call 24; refine (GR.out _ D8.out).mono ?_; rintro e w9 ⟨v9, rfl, hrow9, hb9⟩; have D9 := Lib.hid (below_step D8.out hb9); have P9 := Lib.hid ((P8.out.below hb9).more hb9.size); have Q9 := Lib.hid ((Q8.out.below hb9).more hb9.size); obtain ⟨A9, C9, rfl, hsl9⟩ := own_slice hrow9; have T9 := Lib.hid hsl9; have SS := Same_any A7 A9 1 1 C7 C9 [y] [y] w9 _ _ Q9.out T9.out; rw [sameL_refl] at SS; replace SS := Lib.hid SS; clear hrow9 hb9 hsl9)
                  | (go_at_call 20; refine SS.out.mono ?_; rintro e wS ⟨rfl, q, rfl⟩; have D10 := Lib.hid (below_drewN D9.out q); have P10 := Lib.hid (P9.out.drewN q); obtain ⟨b9, off9, rfl, hb9', c9⟩ := str_at (T9.out.drewN q) (k := 0) (x := y) rfl; rw [HY.out] at c9; simp only [Nat.add_zero] at c9))
                go_roundw
                case rel => exact ⟨k + 1, A6, V2.length, C6, by omega, by go_num, rfl, by rw [HV2.out]; exact P10.out, D10.out⟩
                case measure => simp [intOf]; omega
              · obtain ⟨nG, hnG⟩ : ∃ n, G.length = n := ⟨_, rfl⟩
                have ON2 : Hid (∀ w1, Below w5.heap.size w5 w1 → Calls Tryd.prog 23 #[.slice (some ⟨g3, 0, none⟩) n1 cap3, .string S] w1 fun e w' => e = .returned (.tuple #[.string ⟨#[]⟩, .bool false]) ∧ Below w1.heap.size w1 w') := Lib.hid fun w1 hb => by
                  have := ON w1 hb
                  rw [ho] at this
                  exact this
                have GA2 := GA.out
                have GR2 := GR.out
                rw [hnG] at GA2 GR2 hg1 hgl
                have hgI : ((nG : Int) == 1) = false := by rw [beq_eq_false_iff_ne]; omega
                have hgI2 : ¬ ((nG : Int) = 1) := by omega
                have hg40 : nG ≤ 40 := by omega
                replace GA := Lib.hid GA2
                replace GR := Lib.hid GR2
                clear ON ho hgl hl1 GA2 GR2 hnG
                go_wp2_with (first
                  | (go_at_call 22; refine RW.out.mono ?_; rintro e w6 ⟨v6, rfl, hrow6, hb6⟩; have D6 := Lib.hid (below_step D.out hb6); obtain ⟨A6, C6, rfl, hsl6⟩ := own_slice hrow6; have Q6 := Lib.hid hsl6; have k6 := (D6.out.cell (p := ⟨b, off + k, none⟩) hbw).trans C5'.out; clear hrow6 hb6 hsl6)
                  | (go_at_call 18; refine (GA.out _ D6.out).mono ?_; rintro e w7 ⟨v7, rfl, hrow7, hb7⟩; have D7 := Lib.hid (below_step D6.out hb7); have P7 := Lib.hid ((Q6.out.below hb7).more hb7.size); obtain ⟨A7, C7, rfl, hsl7⟩ := own_slice hrow7; have Q7 := Lib.hid hsl7; have k7 := (D7.out.cell (p := ⟨b, off + k, none⟩) hbw).trans C5'.out; clear hrow7 hb7 hsl7)
                  | (go_at_call 23; refine (ON2.out _ D7.out).mono ?_; rintro e w8 ⟨rfl, hb8⟩; have D8 := Lib.hid (below_step D7.out hb8); have P8 := Lib.hid ((P7.out.below hb8).more hb8.size); have Q8 := Lib.hid ((Q7.out.below hb8).more hb8.size); have k8 := (D8.out.cell (p := ⟨b, off + k, none⟩) hbw).trans C5'.out; clear hb8)
                  | (go_at_call 24; refine (GR.out _ D8.out).mono ?_; rintro e w9 ⟨v9, rfl, hrow9, hb9⟩; have D9 := Lib.hid (below_step D8.out hb9); have P9 := Lib.hid ((P8.out.below hb9).more hb9.size); have Q9 := Lib.hid ((Q8.out.below hb9).more hb9.size); obtain ⟨A9, C9, rfl, hsl9⟩ := own_slice hrow9; have T9 := Lib.hid hsl9; have SS := Same_any A7 A9 nG nG C7 C9 G G w9 _ _ Q9.out T9.out; rw [sameL_refl] at SS; replace SS := Lib.hid SS; clear hrow9 hb9 hsl9)
                  | (go_at_call 20; refine SS.out.mono ?_; rintro e wS ⟨rfl, q, rfl⟩; have D10 := Lib.hid (below_drewN D9.out q); have P10 := Lib.hid (P9.out.drewN q)))
                go_roundw
                case rel => exact ⟨k + 1, A6, V2.length, C6, by omega, by go_num, rfl, by rw [HV2.out]; exact P10.out, D10.out⟩
                case measure => simp [intOf]; omega
          · obtain rfl : k = n3 := by omega
            rw [List.take_of_length_le (by rw [Hl3.out]; omega), HWa.out] at Hx
            have hxn := fld_count Hx.out
            rw [Hna.out] at hxn
            subst hxn
            obtain ⟨we, rfl⟩ : ∃ we : World, we = wr := ⟨_, rfl⟩
            have Ra := Lib.hid ((Qa.out.below D.out).more D.out.size)
            have Rb := Lib.hid ((Qb.out.below D.out).more D.out.size)
            have Ri := Lib.hid ((R5.out.below D.out).more D.out.size)
            clear Qa Qb R5
            go_wp2
            go_loopw [11, 17] (fun v i wr => ∃ (j : Nat) (Ay : Option Addr) (ny cy : Nat), j ≤ n2 ∧ i = .int .i64 j ∧ v = .slice Ay ny cy ∧ SliceIn wr wr.heap.size 2 Ay ny cy (fldsV (withL L (K.take j))) ∧ Below we.heap.size we wr) (fun _ i _ => n2 - (intOf i).toNat)
            case atStart => exact ⟨0, A1, n1, c1, by omega, rfl, rfl, by rw [List.take_zero]; exact (H1.out.below Bw.out).more Bw.out.size, Below.refl _ _⟩
            case round =>
              obtain ⟨j, Ay, ny, cy, hj, rfl, rfl, hsy, hbe⟩ := hrel
              have Hy := Lib.hid hsy
              have E := Lib.hid hbe
              have Be := Lib.hid (below_step Bw.out hbe)
              clear hsy hbe
              by_cases hlj : j < n2
              · obtain ⟨f, hf⟩ : ∃ f, K[j]? = some f := ⟨_, List.getElem?_eq_getElem (by rw [Hl2.out]; omega)⟩
                obtain ⟨b, off, rfl, hb, c0, c1'⟩ := fld_at (H2.out.below Be.out) hf
                obtain ⟨m1, m2⟩ := smallF_get M2.out hf
                obtain ⟨z1, z2⟩ := HWB.out j (by rw [Hl2.out]; omega)
                have hyl := fld_count Hy.out
                have hl1 := Hl1.out
                have hy50 : ny ≤ 50 := by omega
                have hstep := withL_snoc L K j f hf
                have RW := refWith_any Ay ny cy (withL L (K.take j)) f wr Hy.out (by omega) z1 m1
                rw [← hstep] at RW
                obtain ⟨V3, hV3⟩ : ∃ V, withL L (K.take (j + 1)) = V := ⟨_, rfl⟩
                rw [hV3] at RW
                have HV3 := Lib.hid hV3
                obtain ⟨X, hX⟩ : ∃ X : ByteArray, (⟨f.1.toArray⟩ : ByteArray) = X := ⟨_, rfl⟩
                obtain ⟨Y, hY⟩ : ∃ Y : ByteArray, (⟨f.2.toArray⟩ : ByteArray) = Y := ⟨_, rfl⟩
                rw [hX] at c0 RW
                rw [hY] at c1' RW
                replace RW := Lib.hid RW
                clear hstep hyl hl1 hX hY hV3 z1 z2 m1 m2 hf
                go_wp2_with (go_at_call 25; refine RW.out.mono ?_; rintro e w6 ⟨v6, rfl, hrow6, hb6⟩; have E6 := Lib.hid (below_step E.out hb6); obtain ⟨A6, C6, rfl, hsl6⟩ := own_slice hrow6; have Q6 := Lib.hid hsl6; clear hrow6 hb6 hsl6)
                go_roundw
                case rel => exact ⟨j + 1, A6, V3.length, C6, by omega, by go_num, rfl, by rw [HV3.out]; exact Q6.out, E6.out⟩
                case measure => simp [intOf]; omega
              · obtain rfl : j = n2 := by omega
                rw [List.take_of_length_le (by rw [Hl2.out]; omega), HWb.out] at Hy
                have hyn := fld_count Hy.out
                rw [Hnb.out] at hyn
                subst hyn
                have S1 := refSame3_any A4 na C4 Ax na cx Wa wr ((Ra.out.below E.out).more E.out.size) ((Hx.out.below E.out).more E.out.size) (by omega)
                replace S1 := Lib.hid S1
                go_wp2_with (first
                  | (go_at_call 16; (with_reducible refine S1.out.mono ?_); rintro e w7 ⟨rfl, hb7⟩; have E7 := Lib.hid (below_step E.out hb7); have S2 := Lib.hid (refSame3_any A5 nb C5 Ay nb cy Wb w7 ((Rb.out.below E7.out).more E7.out.size) ((Hy.out.below hb7).more hb7.size) (by omega)); clear hb7)
                  | (go_at_call 16; (with_reducible refine S2.out.mono ?_); rintro e w8 ⟨rfl, hb8⟩; have E8 := Lib.hid (below_step E7.out hb8); have S3 := Lib.hid (refSame3_any (some ⟨g3, 0, none⟩) n1 cap3 A1 n1 c1 L w8 ((Ri.out.below E8.out).more E8.out.size) ((H1.out.below (below_step Bw.out E8.out)).more (below_step Bw.out E8.out).size) (by omega)); clear hb8)
                  | (go_at_call 16; (with_reducible refine S3.out.mono ?_); rintro e w9 ⟨rfl, hb9⟩; have E9 := Lib.hid (below_step E8.out hb9); clear hb9))
                go_ret
                exact ⟨rfl, below_step Bw.out E9.out⟩
end Go.Proofs.YtpmidmdodjgeeaaDoor
