/- Layer 8: message.Print, by the code. Conditions: the lists are within bounds. Printed by mkmpr.py. -/
import Derived.Test.YteocdpkenlkmbaaGreatDoorMrg
import Derived.Test.YteocdpkenlkmbaaGreatDoorSpr1
import Derived.Test.YteocdpkenlkmbaaGreatDoorCcat
import Derived.Test.YteocdpkenlkmbaaGreatDoorPr
namespace Go.Proofs.YteocdpkenlkmbaaGreatDoor
open Go.RowKit IH
set_option maxRecDepth 100000
theorem three_pieces {w : World} {A1 A2 A3 : Option Addr} {n1 n2 n3 c1 c2 c3 B : Nat} {p q r : List UInt8} (h1 : SliceIn w B 1 A1 n1 c1 (bytesV p)) (h2 : SliceIn w B 1 A2 n2 c2 (bytesV q)) (h3 : SliceIn w B 1 A3 n3 c3 (bytesV r)) : PiecesR w B [p, q, r] [.slice A1 n1 c1, .slice A2 n2 c2, .slice A3 n3 c3] := by
  refine ⟨rfl, fun i l h => ?_⟩
  match i, h with
  | 0, h => (simp only [List.getElem?_cons_zero, Option.some.injEq] at h; subst h; exact ⟨A1, n1, c1, rfl, h1⟩)
  | 1, h => (simp only [List.getElem?_cons_succ, List.getElem?_cons_zero, Option.some.injEq] at h; subst h; exact ⟨A2, n2, c2, rfl, h2⟩)
  | 2, h => (simp only [List.getElem?_cons_succ, List.getElem?_cons_zero, Option.some.injEq] at h; subst h; exact ⟨A3, n3, c3, rfl, h3⟩)
  | i + 3, h => simp at h
set_option maxHeartbeats 16000000 in
theorem mprint_any (s : Sta) (hs : StaB s) (hl0 : -9223372036854775808 ≤ s.status) (hl1 : -9223372036854775808 ≤ s.minor) (L : List Fld) (X : List UInt8) (A1 A2 : Option Addr) (n1 n2 c1 c2 : Nat) (M : ByteArray) (w : World) (h1 : SliceIn w w.heap.size 2 A1 n1 c1 (fldsV L)) (h2 : SliceIn w w.heap.size 1 A2 n2 c2 (bytesV X)) (hb : FldB L n1) (hzS : (printS s).length ≤ 1000000) (hzL : sizeL L ≤ 1000000) (hx : n2 ≤ 1000000) :
    Calls Tryz.prog 46 #[.agg (msgC s (.slice A1 n1 c1) (.slice A2 n2 c2)).toArray, .string M] w fun e w' =>
      ((rightM ⟨s, L, X⟩ M.data.toList = false ∧ e = .returned (.tuple #[.slice none 0 0, .int .i64 10])) ∨
       (rightM ⟨s, L, X⟩ M.data.toList = true ∧ ∃ v, e = .returned (.tuple #[v, .int .i64 0]) ∧ w'.ownsRow w.heap.size 5 1 v (printM ⟨s, L, X⟩ M.data.toList).length (bytesV (printM ⟨s, L, X⟩ M.data.toList)))) ∧ Below w.heap.size w w' := by
  have HSi : Hid ((Tryz.prog.info? 46).map (·.size) = some 5) := Lib.hid (by kernel_rfl)
  have HMi : Hid ((Tryz.prog.info? 49).map (·.size) = some 7) := Lib.hid (by kernel_rfl)
  have hX : X.length = n2 := by have := h2.1; rw [bytesV_length] at this; omega
  have hc2 := h2.2.1
  have hc3 := h2.2.2.1
  obtain ⟨Sm, St, Sr, hs5, hsm⟩ := msg_cells s
  obtain ⟨ss, hss⟩ : ∃ x, s.status = x := ⟨_, rfl⟩
  obtain ⟨mi, hmi⟩ : ∃ x, s.minor = x := ⟨_, rfl⟩
  obtain ⟨w1, hw1⟩ : ∃ W : World, w.alloc (.cells (msgC s (.slice A1 n1 c1) (.slice A2 n2 c2)).toArray 49) = W := ⟨_, rfl⟩
  have B1 : Hid (Below w.heap.size w w1) := Lib.hid (by rw [← hw1]; exact (Below.refl _ _).alloc (Nat.le_refl _) _)
  have R1 : Hid (RowAt w1 w.heap.size 49 (msgC s (.slice A1 n1 c1) (.slice A2 n2 c2))) := Lib.hid (by rw [← hw1]; exact RowAt.new w 49 _)
  have RG := Lib.hid (fun (W : World) (hW : Below w.heap.size w W) => mright_any s hs.sta L X A1 A2 n1 n2 c1 c2 M W ((h1.below hW).more hW.size) ((h2.below hW).more hW.size) hb)
  have FR := Lib.hid (fun (W : World) (hW : Below w.heap.size w W) => mframing_any s A1 n1 c1 L (.slice A2 n2 c2) M W ((h1.below hW).more hW.size) hb)
  have SP := Lib.hid (fun (W : World) => sprint_any s hs hl0 hl1 hzS W)
  have FP := Lib.hid (fun (W : World) (hW : Below w.heap.size w W) => fprint_any A1 n1 c1 L W ((h1.below hW).more hW.size) hb.n hb.f)
  have H2 := Lib.hid h2
  have hPr : printM ⟨s, L, X⟩ M.data.toList = [printS s, printL L, if (framingL s L M.data.toList).1 = 2 then encL [X] else X].flatten := by unfold printM; simp
  have HP := Lib.hid hPr
  have HzS := Lib.hid hzS
  have HzL : Hid ((printL L).length ≤ 1000000) := Lib.hid (by rw [printL_size]; exact hzL)
  have HXl := Lib.hid hX
  have hrp : rightM ⟨s, L, X⟩ M.data.toList = true → right6 s = true ∧ faultL L = 0 := fun h => ⟨(right_parts h).1, (right_parts h).2.1⟩
  obtain ⟨T, hT⟩ : ∃ T, rightM ⟨s, L, X⟩ M.data.toList = T := ⟨_, rfl⟩
  simp only [hT] at RG hrp ⊢
  simp only [hsm, hs5, hss, hmi] at hw1 R1 RG FR SP ⊢
  have HRP := Lib.hid hrp
  clear hs hb hT hsm hs5 hss hmi h1 h2 hX hPr hzS hzL hrp hl0 hl1
  cases T with
  | false =>
    clear HRP SP FP FR
    go_enter Tryz.func46, Tryz.ntmps46
    go_wp2_with (first
      | (refine wpList_load_g (by first | exact wanted_un rfl | exact wanted_yes rfl rfl rfl rfl | exact (wanted_is rfl rfl rfl rfl).trans (by simp; omega) | exact (wanted_is rfl rfl rfl rfl).trans (by simp)) 49 _ rfl w.heap.size 0 rfl [.string Sm, .string St, .int .i64 ss, .string Sr, .int .i64 mi, .slice A1 n1 c1, .slice A2 n2 c2] _ (rangeOf R1.out) Tryz.underlying49 rfl HMi.out ?_)
      | (go_at_call 47; (with_reducible refine (RG.out _ B1.out).mono ?_); rintro x2 w2 ⟨rfl, hb2⟩; have B2 := Lib.hid (below_step B1.out hb2); clear hb2))
    go_ret2
    exact ⟨.inl ⟨by first | rfl | trivial, rfl⟩, B2.out⟩
  | true =>
    obtain ⟨h6, hf0⟩ := HRP.out rfl
    have H6 := Lib.hid h6
    have HF0 := Lib.hid hf0
    clear HRP h6 hf0
    go_enter Tryz.func46, Tryz.ntmps46
    go_upto_region 6 with (first
      | (have _t := R1; refine wpList_load_g (by first | exact wanted_un rfl | exact wanted_yes rfl rfl rfl rfl | exact (wanted_is rfl rfl rfl rfl).trans (by simp; omega) | exact (wanted_is rfl rfl rfl rfl).trans (by simp)) 49 _ rfl w.heap.size 0 rfl [.string Sm, .string St, .int .i64 ss, .string Sr, .int .i64 mi, .slice A1 n1 c1, .slice A2 n2 c2] _ (rangeOf R1.out) Tryz.underlying49 rfl HMi.out ?_)
      | (go_at_call 47; (with_reducible refine (RG.out _ B1.out).mono ?_); rintro x2 w2 ⟨rfl, hb2⟩; have B2 := Lib.hid (below_step B1.out hb2); have R2 := Lib.hid (R1.out.below hb2 R1.out.lt); clear hb2 R1)
      | (refine wpList_load_g (by first | exact wanted_un rfl | exact wanted_yes rfl rfl rfl rfl | exact (wanted_is rfl rfl rfl rfl).trans (by simp; omega) | exact (wanted_is rfl rfl rfl rfl).trans (by simp)) 46 _ rfl w.heap.size 0 rfl [.string Sm, .string St, .int .i64 ss, .string Sr, .int .i64 mi] _ (range_front (T := [.slice A1 n1 c1, .slice A2 n2 c2]) R2.out) Tryz.underlying46 rfl HSi.out ?_)
      | (go_at_call 87; (with_reducible refine (SP.out _).mono ?_); rintro x3 w3 ⟨h3, hb3⟩; obtain ⟨g3, m3, c3, rfl, -, hm3, hs3⟩ : ∃ g n c, x3 = .returned (.tuple #[.slice (some ⟨g, 0, none⟩) n c, .int .i64 0]) ∧ g < w3.heap.size ∧ n = (printS s).length ∧ SliceIn w3 w3.heap.size 1 (some ⟨g, 0, none⟩) n c (bytesV (printS s)) := (h3.elim (fun q => absurd (q.1.symm.trans H6.out) (by decide)) (fun q => q.2)); have B3 := Lib.hid (below_step B2.out hb3); have R3 := Lib.hid (R2.out.below hb3 R2.out.lt); have S3 := Lib.hid hs3; have e5 := R3.out.cell (j := 5) rfl; clear hb3 h3 hs3 hm3)
      | (go_at_call 88; (with_reducible refine (FP.out _ B3.out).mono ?_); rintro x4 w4 ⟨v4, rfl, ho4, hb4⟩; rw [if_pos HF0.out] at ho4; obtain ⟨A4, c4, rfl, hs4⟩ := own_slice ho4; have B4 := Lib.hid (below_step B3.out hb4); have R4 := Lib.hid (R3.out.below hb4 R3.out.lt); have S4 := Lib.hid hs4; have S3b := Lib.hid ((S3.out.below hb4).more hb4.size); have e6 := R4.out.cell (j := 6) rfl; clear hb4 ho4 hs4 S3 e5))
    clear SP FP RG B1 B2 B3 R2 R3 e6
    obtain ⟨lL, hlL⟩ : ∃ x, (printL L).length = x := ⟨_, rfl⟩
    have HlL := Lib.hid hlL
    rw [hlL] at S4
    simp only [hlL]
    clear hlL
    go_upto_if 40 with (first
      | (refine wpList_load_g (by first | exact wanted_un rfl | exact wanted_yes rfl rfl rfl rfl | exact (wanted_is rfl rfl rfl rfl).trans (by simp; omega) | exact (wanted_is rfl rfl rfl rfl).trans (by simp)) 49 _ rfl w.heap.size 0 rfl [.string Sm, .string St, .int .i64 ss, .string Sr, .int .i64 mi, .slice A1 n1 c1, .slice A2 n2 c2] _ (rangeOf R4.out) Tryz.underlying49 rfl HMi.out ?_)
      | (go_at_call 45; (with_reducible refine (FR.out _ B4.out).mono ?_); rintro x5 w5 ⟨rfl, hb5⟩; have B5 := Lib.hid (below_step B4.out hb5); have R5 := Lib.hid (R4.out.below hb5 R4.out.lt); have S5 := Lib.hid ((S4.out.below hb5).more hb5.size); have S3c := Lib.hid ((S3b.out.below hb5).more hb5.size); clear hb5))
    clear FR B4 R4 S4 S3b
    obtain ⟨bo, hbo⟩ : ∃ x, (if (framingL s L M.data.toList).1 = 2 then encL [X] else X) = x := ⟨_, rfl⟩
    have HP2 : Hid (printM ⟨s, L, X⟩ M.data.toList = [printS s, printL L, bo].flatten) := Lib.hid (by rw [HP.out, hbo])
    have hbl : bo.length ≤ 1000020 := by
      rw [← hbo]
      split
      · have h5 := encL_len8 [X] (fun p hp => by rw [List.mem_singleton.1 hp, HXl.out]; omega)
        have h6 : IH.total [X] = X.length := by simp [IH.total]
        have := HXl.out
        simp only [List.length_cons, List.length_nil] at h5
        omega
      · have := HXl.out; omega
    have HBL := Lib.hid hbl
    clear HP hbl
    obtain ⟨kb, hkb⟩ : ∃ x, ((framingL s L M.data.toList).1 == 2) = x := ⟨_, rfl⟩
    simp only [hkb]
    have Hkb := Lib.hid hkb
    have Hbo := Lib.hid hbo
    clear hkb hbo
    go_cut [10] from 41 to 44 (fun s10 wx => ∃ A c, s10 = .slice A bo.length c ∧ SliceIn wx wx.heap.size 1 A bo.length c (bytesV bo) ∧ Below w5.heap.size w5 wx)
    case first =>
      cases kb
      · have hbo : X = bo := by
          have h := Hkb.out
          rw [beq_eq_false_iff_ne] at h
          have h2 := Hbo.out
          rw [if_neg h] at h2
          exact h2
        have S2 := Lib.hid ((H2.out.below B5.out).more B5.out.size)
        rw [hbo] at S2
        have hl : bo.length = n2 := by rw [← hbo]; exact HXl.out
        have HL2 := Lib.hid hl
        clear hbo hl
        go_wp2_with fail
        go_meet
        exact ⟨A2, c2, by rw [HL2.out], by rw [HL2.out]; exact S2.out, Below.refl _ _⟩
      · have hbo : encL [X] = bo := by
          have h := Hkb.out
          rw [beq_iff_eq] at h
          have h2 := Hbo.out
          rw [if_pos h] at h2
          exact h2
        have EN : ∀ W A n c V, SliceIn W W.heap.size 1 A n c V → PiecesR W W.heap.size [X] V → n ≤ 1000000 → _ := fun W A n c V h1 h2 h3 => enc_any A n c [X] V W h1 h2 h3 (by simp only [IH.total, List.map_cons, List.map_nil, List.sum_cons, List.sum_nil]; have := HXl.out; omega)
        simp only [hbo] at EN
        have HEN := Lib.hid EN
        have e6 := R5.out.cell (j := 6) rfl
        have S2 := Lib.hid ((H2.out.below B5.out).more B5.out.size)
        clear EN hbo
        go_wp2_with (go_at_call 89; (with_reducible refine (HEN.out _ _ _ _ [.slice A2 n2 c2] ((RowAt.new w5 38 [.slice A2 n2 c2]).slice (size := 1) (n := 1) (c := 1) rfl (Nat.le_refl _) (by simp [maxLen])) (piece_one ((S2.out.alloc (Nat.le_refl _) _).more (by simp))) (by decide)).mono ?_); rintro x6 w6 ⟨v6, rfl, ho6, hb6⟩; obtain ⟨A6, c6, rfl, hs6⟩ := own_slice ho6; have B6 := Lib.hid (below_step ((Below.refl w5.heap.size w5).alloc (Nat.le_refl _) (.cells #[.slice A2 n2 c2] 38)) hb6); have S6 := Lib.hid hs6; clear hb6 ho6 hs6)
        go_meet
        exact ⟨_, _, rfl, S6.out, B6.out⟩
    case rest =>
      obtain ⟨w6, hw6⟩ : ∃ W : World, W = wc := ⟨_, rfl⟩
      subst hw6
      obtain ⟨A6, c6, rfl, hs6, hb6⟩ := hcut
      have B6 := Lib.hid (below_step B5.out hb6)
      have S6 := Lib.hid hs6
      have S5b := Lib.hid ((S5.out.below hb6).more hb6.size)
      have S3d := Lib.hid ((S3c.out.below hb6).more hb6.size)
      clear hs6 hb6 S5 S3c
      have hTot : IH.total [printS s, printL L, bo] ≤ 10000000 := by
        simp only [IH.total, List.map_cons, List.map_nil, List.sum_cons, List.sum_nil]
        have := HzS.out; have := HzL.out; have := HBL.out; omega
      have CC := Lib.hid (fun (W : World) (h1 : SliceIn W W.heap.size 1 (some ⟨w6.heap.size, 0, none⟩) 3 3 [.slice (some ⟨g3, 0, none⟩) m3 c3, .slice A4 lL c4, .slice A6 bo.length c6]) (h2 : PiecesR W W.heap.size [printS s, printL L, bo] [.slice (some ⟨g3, 0, none⟩) m3 c3, .slice A4 lL c4, .slice A6 bo.length c6]) => concat_any _ 3 3 _ _ W h1 h2 (by decide) hTot)
      clear hTot
      go_wp2_with (go_at_call 90; (with_reducible refine (CC.out _ ((RowAt.new w6 38 [.slice (some ⟨g3, 0, none⟩) m3 c3, .slice A4 lL c4, .slice A6 bo.length c6]).slice (size := 1) (n := 3) (c := 3) rfl (Nat.le_refl _) (by simp [maxLen])) (three_pieces ((S3d.out.alloc (Nat.le_refl _) _).more (by simp)) ((S5b.out.alloc (Nat.le_refl _) _).more (by simp)) ((S6.out.alloc (Nat.le_refl _) _).more (by simp)))).mono ?_); rintro x7 w7 ⟨v7, rfl, ho7, hb7⟩; have B7 := Lib.hid (below_step (B6.out.alloc B6.out.size (.cells #[.slice (some ⟨g3, 0, none⟩) m3 c3, .slice A4 lL c4, .slice A6 bo.length c6] 38)) hb7); have O7 := Lib.hid ho7; clear hb7 ho7)
      go_ret2
      refine ⟨.inr ⟨by first | rfl | trivial, _, rfl, ?_⟩, B7.out⟩
      rw [HP2.out]
      exact own_low O7.out (by have := B6.out.size; simp; omega)
end Go.Proofs.YteocdpkenlkmbaaGreatDoor
