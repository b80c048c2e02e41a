/- Walks of layer 7: a trailer's line taken; what comes next, by the code. Conditions: texts within 10^8 octets; the decoder's numbers within bounds; the world's shape. -/
import Derived.Test.YtefoaldpllnijaaDoorChu3
import Derived.Test.YtefoaldpllnijaaDoorFie11
namespace Go.Proofs.YtefoaldpllnijaaDoor
open Go.RowKit IH
set_option maxRecDepth 100000
set_option maxHeartbeats 4000000 in
theorem ctail_any (g : Nat) (d : Dec) (s : ByteArray) (w : World) (hsh : w.ShapedOpen Tryd.prog) (hr : RowAt w g 96 (decV d)) (hd : DecIn d) (hs : s.size ≤ 100000000) :
    Calls Tryd.prog 76 #[.pointer (some ⟨g, 0, none⟩), .string s] w fun e w' => e = .returned (.int .i64 (tailC d s.data.toList).1) ∧ RowAt w' g 96 (decV (tailC d s.data.toList).2) ∧ Save w.heap.size g w w' := by
  obtain ⟨a1, a2, a3, a4, a5, a6, a7, a8⟩ := hd
  have hgl := hr.lt
  have Hr := Lib.hid hr
  unfold tailC
  by_cases h0 : s.data.toList = []
  · rw [if_pos h0]
    have e0 : (s.toList == []) = true := by rw [beq_iff_eq, ByteArray.toList_eq]; exact h0
    have e1 : s.toList = [] := by rw [ByteArray.toList_eq]; exact h0
    have f0 := Hr.out.frozen (j := 0) (show 0 < 5 by omega)
    have d0 := Hr.out.cell (j := 0) rfl
    clear h0 hr
    go_enter Tryd.func76, Tryd.ntmps76
    go_wp2
    go_ret
    exact ⟨rfl, Hr.out.set_ (j := 0) (show 0 < 5 by omega) _, (Save.refl _ _ _).setCell _ _⟩
  · rw [if_neg h0]
    have e0 : (s.toList == []) = false := by rw [beq_eq_false_iff_ne, ByteArray.toList_eq]; exact h0
    have hSz : (s ++ (⟨#[13, 10, 13, 10]⟩ : ByteArray)).size = s.size + 4 := by rw [← data_len, append_data, List.length_append, data_len]; rfl
    have hSd : (s ++ (⟨#[13, 10, 13, 10]⟩ : ByteArray)).data.toList = s.data.toList ++ [13, 10, 13, 10] := by rw [append_data]
    have hcv := Lib.run_convert_string_bytes (P := Tryd.prog) w 9 22 5 (s ++ (⟨#[13, 10, 13, 10]⟩ : ByteArray)) Tryd.underlying9 Tryd.underlying22 Tryd.underlying5
    have hrow := RowAt.bytes w 5 (s ++ (⟨#[13, 10, 13, 10]⟩ : ByteArray))
    have hbel := below_bytesWorld w 5 (s ++ (⟨#[13, 10, 13, 10]⟩ : ByteArray))
    have hcap := Nat.le_trans (Nat.le_refl _) (grownCap_le_maxLen w (s ++ (⟨#[13, 10, 13, 10]⟩ : ByteArray)).size 0 5 (by simp only [maxLen]; omega))
    have hcap2 := grownCap_ge w (s ++ (⟨#[13, 10, 13, 10]⟩ : ByteArray)).size 0 5
    generalize Lib.bytesWorld w 5 (s ++ (⟨#[13, 10, 13, 10]⟩ : ByteArray)) = W at *
    generalize grownCap w (s ++ (⟨#[13, 10, 13, 10]⟩ : ByteArray)).size 0 5 = C at *
    rw [hSd] at hrow
    have hsl := hrow.slice (size := 1) (n := (s ++ (⟨#[13, 10, 13, 10]⟩ : ByteArray)).size) (c := C) (by rw [bytesV_length, ← hSd, data_len, Nat.mul_one]) hcap2 hcap
    have PA := fparse_any w.heap.size 0 _ C _ W (shaped_below hsh hbel) hsl (by omega)
    obtain ⟨R, hR⟩ : ∃ R, parseFs (s.data.toList ++ [13, 10, 13, 10]) = R := ⟨_, rfl⟩
    rw [hR] at PA ⊢
    obtain ⟨r1, r2, r3⟩ := R
    simp only at PA ⊢
    have key : ∀ w2, Below W.heap.size W w2 → Hid (RowAt w2 g 96 (decV d)) ∧ Hid (Save w.heap.size g w w2) := fun w2 hb => ⟨Lib.hid (Hr.out.below (below_step hbel hb) hgl), Lib.hid (below_save (below_step hbel hb))⟩
    rw [hSz] at PA hcv
    replace PA := Lib.hid PA
    clear hsl hrow hR hr hSd hcap hcap2 hsh h0 hbel Hr
    by_cases h1 : r3 = 0
    · subst h1
      rw [if_neg (by simp)]
      by_cases h2 : 128 < d.fields + 1
      · rw [if_pos h2]
        go_enter Tryd.func76, Tryd.ntmps76
        go_wp2_with (go_at_call 95; (with_reducible refine PA.out.mono ?_); rintro e w2 ⟨v, rfl, _, hb2⟩; obtain ⟨R2, S2⟩ := key w2 hb2; have f3 := R2.out.frozen (j := 3) (show 3 < 5 by omega); have d3 := R2.out.cell (j := 3) rfl; clear hb2)
        go_ret
        exact ⟨rfl, R2.out.set_ (j := 3) (show 3 < 5 by omega) _, S2.out.setCell _ _⟩
      · rw [if_neg h2]
        go_enter Tryd.func76, Tryd.ntmps76
        go_wp2_with (go_at_call 95; (with_reducible refine PA.out.mono ?_); rintro e w2 ⟨v, rfl, _, hb2⟩; obtain ⟨R2, S2⟩ := key w2 hb2; have f3 := R2.out.frozen (j := 3) (show 3 < 5 by omega); have d3 := R2.out.cell (j := 3) rfl; clear hb2)
        go_ret
        exact ⟨rfl, R2.out.set_ (j := 3) (show 3 < 5 by omega) _, S2.out.setCell _ _⟩
    · rw [if_pos h1]
      have n1 : (r3 != 0) = true := by rw [bne_iff_ne]; exact h1
      go_enter Tryd.func76, Tryd.ntmps76
      go_wp2_with (go_at_call 95; (with_reducible refine PA.out.mono ?_); rintro e w2 ⟨v, rfl, _, hb2⟩; obtain ⟨R2, S2⟩ := key w2 hb2; clear hb2)
      go_ret
      exact ⟨rfl, R2.out, S2.out⟩
theorem slice_nil (w : World) (B : Nat) : SliceIn w B 1 none 0 0 (bytesV []) := SliceIn.none_ (Nat.zero_le _)
theorem lineC_size (l : List UInt8) : (lineC l).1.length ≤ l.length := by
  unfold lineC
  split
  · split <;> simp
  · split
    · simp
    · simp only [List.length_take]; omega
set_option maxHeartbeats 8000000 in
theorem cstep_any (g b0 off n c : Nat) (d : Dec) (l : List UInt8) (w : World) (hsh : w.ShapedOpen Tryd.prog) (hr : RowAt w g 96 (decV d)) (hd : DecIn d) (hin : SliceIn w w.heap.size 1 (some ⟨b0, off, none⟩) n c (bytesV l)) (hne : b0 ≠ g) (hn : n ≤ 100000000) :
    Calls Tryd.prog 56 #[.pointer (some ⟨g, 0, none⟩), .slice (some ⟨b0, off, none⟩) n c] w fun e w' => ∃ A k q, e = .returned (.tuple #[.slice A k q, .int .i64 (stepC d l).2.1, .int .i64 (stepC d l).2.2.1]) ∧ SliceIn w' w'.heap.size 1 A k q (bytesV (stepC d l).1) ∧ RowAt w' g 96 (decV (stepC d l).2.2.2) ∧ Save w.heap.size g w w' := by
  have hd0 := hd
  obtain ⟨a1, a2, a3, a4, a5, a6, a7, a8⟩ := hd
  have hll : l.length = n := by have := hin.1; rw [bytesV_length, Nat.mul_one] at this; exact this
  have hnc := hin.2.1
  have hgl := hr.lt
  have Hr := Lib.hid hr
  have Hin := Lib.hid hin
  have d0 := hr.cell (j := 0) rfl
  have d1 := hr.cell (j := 1) rfl
  have f0 := hr.frozen (j := 0) (show 0 < 5 by omega)
  have f1 := hr.frozen (j := 1) (show 1 < 5 by omega)
  obtain ⟨dw, dl, dt, df, de⟩ := d
  simp only at a1 a2 a3 a4 a5 a6 a7 a8
  clear hr hin
  unfold stepC
  simp only
  have hw : dw = 1 ∨ dw = 2 ∨ dw = 4 ∨ (dw = 0 ∨ dw = 3) := by omega
  rcases hw with rfl | rfl | rfl | hw
  · rw [if_pos rfl]
    simp only
    obtain ⟨m, hm⟩ : ∃ m, min dl.toNat l.length = m := ⟨_, rfl⟩
    rw [hm]
    rw [hll] at hm
    have hmI : min dl (n : Int) = (m : Int) := by omega
    have hw1 : IntKind.i64.wrap (dl - (m : Int)) = dl - (m : Int) := IntWalk.i64_in _ ⟨by omega, by omega⟩
    have j1 : m ≤ n := by omega
    have j2 : m ≤ c := by omega
    have hsub := Hin.out.sub (a := 0) (b := m) (by omega) j1 (some ⟨b0, off, none⟩) (fun _ => by simp [add_plain])
    simp only [Nat.sub_zero, Nat.mul_one, List.drop_zero] at hsub
    rw [show (bytesV l).take m = bytesV (l.take m) by simp [bytesV, List.map_take]] at hsub
    have hs3 : SliceIn w w.heap.size 1 (some ⟨b0, off, none⟩) m m (bytesV (l.take m)) := ⟨hsub.1, Nat.le_refl _, by have := hsub.2.2.1; have := hsub.2.1; omega, hsub.2.2.2⟩
    have Hs3 := Lib.hid hs3
    have jI : (m : Int) ≤ (c : Int) := by omega
    clear hsub hs3 hd0
    by_cases hz : dl - (m : Int) = 0
    · rw [if_pos hz, hz]
      have hzb : (dl - (m : Int) == 0) = true := by rw [beq_iff_eq]; exact hz
      go_enter Tryd.func56, Tryd.ntmps56
      go_wp2
      go_ret3
      have SV := ((Save.refl w.heap.size g w).setCell 1 (.int .i64 0)).setCell 0 (.int .i64 2)
      exact ⟨_, _, _, rfl, (Hs3.out.save SV hne).more SV.size, (Hr.out.set_ (j := 1) (show 1 < 5 by omega) _).set_ (j := 0) (show 0 < 5 by omega) _, SV⟩
    · rw [if_neg hz]
      have hzb : (dl - (m : Int) == 0) = false := by rw [beq_eq_false_iff_ne]; exact hz
      go_enter Tryd.func56, Tryd.ntmps56
      go_wp2
      go_ret3
      have SV := (Save.refl w.heap.size g w).setCell 1 (.int .i64 (dl - (m : Int)))
      exact ⟨_, _, _, rfl, (Hs3.out.save SV hne).more SV.size, Hr.out.set_ (j := 1) (show 1 < 5 by omega) _, SV⟩
  · rw [if_neg (by decide), if_pos rfl]
    by_cases h2 : l.length < 2
    · rw [if_pos h2]
      have h2I : (n : Int) < 2 := by omega
      clear h2
      go_enter Tryd.func56, Tryd.ntmps56
      go_wp2
      go_ret3
      exact ⟨_, _, _, rfl, slice_nil _ _, Hr.out, Save.refl _ _ _⟩
    · rw [if_neg h2]
      have h2I : ¬ (n : Int) < 2 := by omega
      have h2J : (1 : Int) < (n : Int) := by omega
      have h2K : (0 : Int) < (n : Int) := by omega
      obtain ⟨x0, hx0⟩ : ∃ x, l[0]? = some x := ⟨_, List.getElem?_eq_getElem (by omega)⟩
      obtain ⟨x1, hx1⟩ : ∃ x, l[1]? = some x := ⟨_, List.getElem?_eq_getElem (by omega)⟩
      have hcells : w.cell? ⟨b0, off, none⟩ = some (.int .u8 x0.toNat) ∧ w.cell? ⟨b0, off + 1, none⟩ = some (.int .u8 x1.toNat) := by
        obtain ⟨b', o', e, _, hc⟩ := Hin.out.2.2.2 (by omega)
        simp only [Option.some.injEq, Addr.mk.injEq, and_true] at e
        obtain ⟨rfl, rfl⟩ := e
        exact ⟨hc 0 (.int .u8 x0.toNat) (by rw [bytesV_get, hx0]; rfl), hc 1 (.int .u8 x1.toNat) (by rw [bytesV_get, hx1]; rfl)⟩
      obtain ⟨c0, c1⟩ := hcells
      rw [hx0, hx1]
      have n2 : 1 < n := by omega
      have n1 : 0 < n := by omega
      have c2 : 1 < c := by omega
      have e13 : ((x0.toNat : Int) == 13) = decide (x0 = 13) := by
        rw [Bool.eq_iff_iff, beq_iff_eq, decide_eq_true_eq]
        exact ⟨fun h => UInt8.toNat_inj.1 (by have : (13 : UInt8).toNat = 13 := rfl; omega), fun h => by subst h; rfl⟩
      have e10 : ((x1.toNat : Int) == 10) = decide (x1 = 10) := by
        rw [Bool.eq_iff_iff, beq_iff_eq, decide_eq_true_eq]
        exact ⟨fun h => UInt8.toNat_inj.1 (by have : (10 : UInt8).toNat = 10 := rfl; omega), fun h => by subst h; rfl⟩
      clear hx0 hx1 h2 hd0
      by_cases h13 : x0 = 13
      · by_cases h10 : x1 = 10
        · subst h13 h10
          rw [if_neg (by simp)]
          go_enter Tryd.func56, Tryd.ntmps56
          go_wp2
          go_ret3
          exact ⟨_, _, _, rfl, slice_nil _ _, Hr.out.set_ (j := 0) (show 0 < 5 by omega) _, (Save.refl _ _ _).setCell _ _⟩
        · rw [if_pos (.inr fun h => h10 (Option.some.inj h))]
          rw [decide_eq_false h10] at e10
          rw [decide_eq_true h13] at e13
          have n10 : ((x1.toNat : Int) != 10) = true := by rw [bne, e10]; rfl
          have n13 : ((x0.toNat : Int) != 13) = false := by rw [bne, e13]; rfl
          clear h13 h10
          go_enter Tryd.func56, Tryd.ntmps56
          go_wp2
          go_ret3
          exact ⟨_, _, _, rfl, slice_nil _ _, Hr.out, Save.refl _ _ _⟩
      · rw [if_pos (.inl fun h => h13 (Option.some.inj h))]
        rw [decide_eq_false h13] at e13
        have n13 : ((x0.toNat : Int) != 13) = true := by rw [bne, e13]; rfl
        clear h13 e10
        go_enter Tryd.func56, Tryd.ntmps56
        go_wp2
        go_ret3
        exact ⟨_, _, _, rfl, slice_nil _ _, Hr.out, Save.refl _ _ _⟩
  · rw [if_neg (by decide), if_neg (by decide), if_pos rfl]
    clear hd0
    go_enter Tryd.func56, Tryd.ntmps56
    go_wp2
    go_ret3
    exact ⟨_, _, _, rfl, slice_nil _ _, Hr.out, Save.refl _ _ _⟩
  · rw [if_neg (by omega), if_neg (by omega), if_neg (by omega)]
    have LN := cline_any b0 off n c w.heap.size l w Hin.out (by omega)
    have hls := lineC_size l
    obtain ⟨s, k, e, hL⟩ : ∃ s k e, lineC l = (s, k, e) := ⟨_, _, _, rfl⟩
    rw [hL] at LN hls ⊢
    simp only at LN hls ⊢
    have HL := Lib.hid hL
    clear hL
    by_cases he : e = 0
    · subst he
      by_cases hk : k = 0
      · subst hk
        rw [if_pos (.inr rfl)]
        replace LN := Lib.hid LN
        clear hd0
        rcases hw with rfl | rfl
        all_goals
          go_enter Tryd.func56, Tryd.ntmps56
          go_wp2_with (go_at_call 74; refine LN.out.mono ?_; rintro e w2 ⟨rfl, hb2⟩; have R2 := Lib.hid (Hr.out.below hb2 hgl); have S2 := Lib.hid (below_save (g := g) hb2); clear hb2)
          go_ret3
          exact ⟨_, _, _, rfl, slice_nil _ _, R2.out, S2.out⟩
      · rw [if_neg (by simp [hk])]
        have hkb : ((k : Int) == 0) = false := by rw [beq_eq_false_iff_ne]; omega
        obtain ⟨S, hS⟩ : ∃ S : ByteArray, (⟨s.toArray⟩ : ByteArray) = S := ⟨_, rfl⟩
        have hSl : S.data.toList = s := by rw [← hS]
        have hSz : S.size ≤ 100000000 := by rw [← data_len, hSl]; omega
        rw [hS] at LN
        replace LN := Lib.hid LN
        have BG := fun w2 (hb : Below w.heap.size w w2) => cbegin_any g _ S w2 (Hr.out.below hb hgl) hd0 (by omega)
        have TA := fun w2 (hb : Below w.heap.size w w2) => ctail_any g _ S w2 (shaped_below hsh hb) (Hr.out.below hb hgl) hd0 hSz
        rw [hSl] at BG TA
        replace BG := Lib.hid BG
        replace TA := Lib.hid TA
        clear hS hSl HL hls hd0
        have d0k : ∀ w2, Below w.heap.size w w2 → w2.cell? ⟨g, 0, none⟩ = some (.int .i64 dw) := fun w2 hb => (Hr.out.below hb hgl).cell (j := 0) rfl
        rcases hw with rfl | rfl
        · rw [if_pos rfl]
          go_enter Tryd.func56, Tryd.ntmps56
          go_wp2_with (first
            | (go_at_call 74; refine LN.out.mono ?_; rintro e w2 ⟨rfl, hb2⟩; have d2 := d0k w2 hb2; have B2 := Lib.hid hb2; clear hb2)
            | (go_at_call 75; refine (BG.out _ B2.out).mono ?_; rintro e w3 ⟨rfl, hr3, hs3⟩; have R3 := Lib.hid hr3; have S3 := Lib.hid ((below_save (g := g) B2.out).trans (hs3.mono B2.out.size)); clear hr3 hs3))
          go_ret3
          exact ⟨_, _, _, rfl, slice_nil _ _, R3.out, S3.out⟩
        · rw [if_neg (by decide)]
          go_enter Tryd.func56, Tryd.ntmps56
          go_wp2_with (first
            | (go_at_call 74; refine LN.out.mono ?_; rintro e w2 ⟨rfl, hb2⟩; have d2 := d0k w2 hb2; have B2 := Lib.hid hb2; clear hb2)
            | (go_at_call 76; refine (TA.out _ B2.out).mono ?_; rintro e w3 ⟨rfl, hr3, hs3⟩; have R3 := Lib.hid hr3; have S3 := Lib.hid ((below_save (g := g) B2.out).trans (hs3.mono B2.out.size)); clear hr3 hs3))
          go_ret3
          exact ⟨_, _, _, rfl, slice_nil _ _, R3.out, S3.out⟩
    · rw [if_pos (.inl he)]
      have neb : (e != 0) = true := by rw [bne_iff_ne]; exact he
      have neb2 : (e == 0) = false := by rw [beq_eq_false_iff_ne]; exact he
      replace LN := Lib.hid LN
      clear hd0
      rcases hw with rfl | rfl
      all_goals
        go_enter Tryd.func56, Tryd.ntmps56
        go_wp2_with (go_at_call 74; refine LN.out.mono ?_; rintro e w2 ⟨rfl, hb2⟩; have R2 := Lib.hid (Hr.out.below hb2 hgl); have S2 := Lib.hid (below_save (g := g) hb2); clear hb2)
        go_ret3
        exact ⟨_, _, _, rfl, slice_nil _ _, R2.out, S2.out⟩
end Go.Proofs.YtefoaldpllnijaaDoor
