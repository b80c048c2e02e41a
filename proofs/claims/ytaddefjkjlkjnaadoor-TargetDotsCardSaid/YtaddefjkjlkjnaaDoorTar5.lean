/- Walk of layer 5: a host and a port, by the code. No condition but that lengths are within bounds. -/
import Derived.Test.YtaddefjkjlkjnaaDoorTar4
import Derived.Test.YtaddefjkjlkjnaaDoorKt
namespace Go.Proofs.YtaddefjkjlkjnaaDoor
open Go.RowKit IH
set_option maxRecDepth 100000
theorem uri_one {h p : ByteArray} {n : Int} : ∀ u ∈ ([.string h, .int .i64 n, .string p] : List Value), u.oneCell' = true := by
  intro u hu
  simp only [List.mem_cons, List.not_mem_nil, or_false] at hu
  rcases hu with rfl | rfl | rfl <;> rfl
/-- The block of a result is there, and nothing ahead of it has changed. -/
structure Res (g0 : Nat) (w W : World) : Prop where
  below : Below g0 w W
  row : ∃ cs : List Value, cs.length = 3 ∧ RowAt W g0 63 cs
theorem Res.lt {g0 : Nat} {w W : World} (h : Res g0 w W) : g0 < W.heap.size := by obtain ⟨_, _, _, hr⟩ := h; exact hr.lt
theorem Res.step {g0 : Nat} {w W W' : World} (h : Res g0 w W) (hb : Below W.heap.size W W') : Res g0 w W' := by
  have hl := h.lt
  obtain ⟨h0, cs, hc, hr⟩ := h
  exact ⟨h0.trans (hb.mono (Nat.le_of_lt hl)), cs, hc, hr.below hb hl⟩
theorem Res.alloc {g0 : Nat} {w W : World} (h : Res g0 w W) (o : Obj) : Res g0 w (W.alloc o) := h.step ((Below.refl _ _).alloc (Nat.le_refl _) _)
theorem Res.drewN {g0 : Nat} {w W : World} (h : Res g0 w W) (n : Nat) : Res g0 w (W.drewN n) := h.step (below_drewN (Below.refl _ _) n)
theorem Res.stored {g0 : Nat} {w W W' : World} {cs : List Value} (h : Res g0 w W) (ho : Only g0 W W') (hr : RowAt W' g0 63 cs) (hc : cs.length = 3) : Res g0 w W' := ⟨ho.below h.below (Nat.le_refl _), cs, hc, hr⟩
theorem Res.set {g0 g j : Nat} {w W : World} {v : Value} (h : Res g0 w W) (hg : g0 < g) : Res g0 w (W.setCell ⟨g, j, none⟩ v) := by
  obtain ⟨h0, cs, hc, hr⟩ := h
  exact ⟨h0.setCell (p := ⟨g, j, none⟩) (Nat.le_of_lt hg) v, cs, hc, hr.far (p := ⟨g, j, none⟩) (by show g0 ≠ g; omega) _⟩
def zeroC : List Value := [.string ⟨#[]⟩, .int .i64 0, .string ⟨#[]⟩]
theorem Res.start (w : World) : Res w.heap.size w (w.alloc (.cells zeroC.toArray 63)) := ⟨(Below.refl _ _).alloc (Nat.le_refl _) _, zeroC, rfl, RowAt.new w _ _⟩
theorem three {cs : List Value} (h : cs.length = 3) : ∃ a b c, cs = [a, b, c] := by
  match cs, h with
  | [a, b, c], _ => exact ⟨a, b, c, rfl⟩
/-- A text's host and port, as bytes. -/
theorem split_bytes (s : ByteArray) : ∃ (x y : Int) (b : Bool), Lib.lastIndexByte s (58 : UInt8).toNat = x ∧ Lib.lastIndexByte s (93 : UInt8).toNat = y ∧ b = (decide (0 ≤ x) && decide (y < x)) ∧
    ((b = false ∧ splitHost s.data.toList = (s.data.toList, [])) ∨
     (b = true ∧ ∃ n : Nat, x = n ∧ n + 1 ≤ s.size ∧ splitHost s.data.toList = ((s.extract 0 n).data.toList, (s.extract (n + 1) s.size).data.toList))) := by
  refine ⟨_, _, _, rfl, rfl, rfl, ?_⟩
  rcases split_cases s.data.toList with ⟨h, t, e, ht⟩ | ⟨h, t, e, ht⟩ | hs
  · right
    have h1 := last_mid e fun x hx => (unmark_ne (ht x hx)).1
    have h2 := last_lt (c := 93) e (by decide) fun x hx => (unmark_ne (ht x hx)).2
    have hl : h.length + 1 + t.length = s.size := by rw [← data_len, e]; simp; omega
    rw [h1]
    refine ⟨by simp; exact h2, h.length, rfl, by omega, ?_⟩
    rw [e, split_colon h t ht, take_data s _ (by omega), drop_data, e, List.take_left' rfl, ← List.drop_drop, List.drop_left' rfl]
    rfl
  · left
    have h1 := last_lt (c := 58) e (by decide) fun x hx => (unmark_ne (ht x hx)).1
    have h2 := last_mid e fun x hx => (unmark_ne (ht x hx)).2
    rw [h2]
    refine ⟨by rw [Bool.and_eq_false_iff, decide_eq_false_iff_not, decide_eq_false_iff_not]; right; omega, ?_⟩
    rw [e, split_other h t ht]
  · left
    have h1 := last_no fun x hx => (unmark_ne (hs x hx)).1
    rw [h1]
    exact ⟨by simp, split_none _ hs⟩
theorem LastIndexByte_t (s : ByteArray) (c : UInt8) (hs : s.size ≤ 1000000000) (w : World) : Calls Tryd.prog 100 #[.string s, .int .u8 c.toNat] w fun e w' => e = .returned (.int .i64 (Lib.lastIndexByte s c.toNat)) ∧ w = w' :=
  (Tryd.strings_LastIndexByte s c.toNat (by omega) w).mono fun _ _ ⟨h1, h2⟩ => ⟨h1, h2.symm⟩
set_option maxHeartbeats 8000000 in
theorem seat_any (s : ByteArray) (hs : s.size ≤ 1000000000) (w : World) :
    Calls Tryd.prog 93 #[.string s] w fun e w' => (∃ (H : ByteArray) (n : Int), e = .returned (.tuple #[.agg #[.string H, .int .i64 n, .string ⟨#[]⟩], .bool (seatL s.data.toList).isSome]) ∧ ∀ x, seatL s.data.toList = some x → H.data.toList = x.1 ∧ n = x.2) ∧ Below w.heap.size w w' := by
  obtain ⟨g0, hg0⟩ : ∃ g0, w.heap.size = g0 := ⟨_, rfl⟩
  obtain ⟨wa, hwa⟩ : ∃ wa, w.alloc (.cells zeroC.toArray 63) = wa := ⟨_, rfl⟩
  have RS : Hid (Res g0 w wa) := Lib.hid (by rw [← hwa, ← hg0]; exact Res.start w)
  rw [show zeroC.toArray = #[.string ⟨#[]⟩, .int .i64 0, .string ⟨#[]⟩] from rfl] at hwa
  rw [hg0]
  obtain ⟨x, y, b, hx, hy, hb, hor⟩ := split_bytes s
  have LX := fun w => LastIndexByte_t s 58 hs w
  have LY := fun w => LastIndexByte_t s 93 hs w
  rw [hx] at LX
  rw [hy] at LY
  rw [show (((58 : UInt8).toNat : Nat) : Int) = 58 from rfl] at LX
  rw [show (((93 : UInt8).toNat : Nat) : Int) = 93 from rfl] at LY
  replace LX := Lib.hid LX
  replace LY := Lib.hid LY
  obtain ⟨U, hU⟩ : ∃ U, seatL s.data.toList = U := ⟨_, rfl⟩
  rw [hU]
  obtain ⟨H, Q, hHs, hQs, hsp⟩ : ∃ H Q : ByteArray, H.size ≤ 1000000000 ∧ Q.size ≤ 1000000000 ∧ splitHost s.data.toList = (H.data.toList, Q.data.toList) ∧ ((b = false ∧ H = s ∧ Q = ⟨#[]⟩) ∨ (b = true ∧ ∃ n : Nat, x = n ∧ n + 1 ≤ s.size ∧ H = s.extract 0 n ∧ Q = s.extract (n + 1) s.size)) := by
    rcases hor with ⟨h1, h2⟩ | ⟨h1, n, h2, h3, h4⟩
    · exact ⟨s, ⟨#[]⟩, hs, by show 0 ≤ _; omega, h2, .inl ⟨h1, rfl, rfl⟩⟩
    · refine ⟨s.extract 0 n, s.extract (n + 1) s.size, ?_, ?_, h4, .inr ⟨h1, n, h2, h3, rfl, rfl⟩⟩
      · simp; omega
      · simp; omega
  obtain ⟨hsp, hHQ⟩ := hsp
  have hU2 : U = if hostOk H.data.toList = true then (if Q.data.toList = [] then some (lower H.data.toList, 80) else if (numR 10 65535 Q.data.toList).2 = 0 ∧ Q.data.toList.length ≤ 5 then some (lower H.data.toList, (numR 10 65535 Q.data.toList).1) else none) else none := by
    rw [← hU]; unfold seatL; rw [hsp]
  rw [data_len] at hU2
  have HU := Lib.hid hU2
  have HHQ := Lib.hid hHQ
  have LW := fun w => Lower_any H (by omega) w
  have NM := fun w => named_any H (by omega) w
  have NU := fun w => Number_any Q (by omega) 65535 (by omega) (by omega) w
  obtain ⟨L, hL⟩ : ∃ L : ByteArray, (⟨(lower H.data.toList).toArray⟩ : ByteArray) = L := ⟨_, rfl⟩
  have HL : Hid (L.data.toList = lower H.data.toList) := Lib.hid (by rw [← hL])
  obtain ⟨ok, hok⟩ : ∃ b, hostOk H.data.toList = b := ⟨_, rfl⟩
  obtain ⟨n1, hn1⟩ : ∃ b, (numR 10 65535 Q.data.toList).1 = b := ⟨_, rfl⟩
  obtain ⟨n2, hn2⟩ : ∃ b, (numR 10 65535 Q.data.toList).2 = b := ⟨_, rfl⟩
  rw [hL] at LW
  rw [hok] at NM HU
  rw [hn1, hn2] at NU HU
  rw [← HL.out] at HU
  replace LW := Lib.hid LW
  replace NM := Lib.hid NM
  replace NU := Lib.hid NU
  clear hU2 hHQ hsp hor hx hy hL hok hn1 hn2 hU
  have HBB := Lib.hid hb
  clear hb
  go_enter Tryd.func93, Tryd.ntmps93
  go_upto_region 3 with (go_at_call 100; refine (LX.out _).mono ?_; rintro e w2 ⟨rfl, rfl⟩)
  go_cut [20] from 13 to 20 (fun s20 wx => s20 = .bool b ∧ wx = wa)
  case first =>
    by_cases h0 : 0 ≤ x
    · by_cases h1 : y < x
      · go_wp2_with (go_at_call 100; refine (LY.out _).mono ?_; rintro e w2 ⟨rfl, rfl⟩)
        go_meet
        exact ⟨by rw [HBB.out, decide_eq_true h0, decide_eq_true h1]; rfl, rfl⟩
      · go_wp2_with (go_at_call 100; refine (LY.out _).mono ?_; rintro e w2 ⟨rfl, rfl⟩)
        go_meet
        exact ⟨by rw [HBB.out, decide_eq_true h0, Bool.true_and], rfl⟩
    · go_wp2_with fail
      go_meet
      exact ⟨by rw [HBB.out, decide_eq_false (Int.not_le.2 h0)]; rfl, rfl⟩
  case rest =>
    obtain ⟨rfl, rfl⟩ := hcut
    go_upto_if 20 with fail
    go_cut [4, 5] from 21 to 27 (fun s4 s5 wx => s4 = .string H ∧ s5 = .string Q ∧ Res g0 w wx)
    case first =>
      rcases HHQ.out with ⟨rfl, rfl, rfl⟩ | ⟨rfl, n, rfl, hn, hH, hQ⟩
      · go_wp2_with fail
        go_meet
        exact ⟨rfl, rfl, RS.out⟩
      · have hnI : (n : Int) + 1 ≤ (s.size : Int) := by omega
        have w1 : IntKind.i64.wrap ((n : Int) + 1) = (n : Int) + 1 := IntWalk.i64_in _ ⟨by omega, by omega⟩
        have H1 := Lib.hid hH
        have H2 := Lib.hid hQ
        clear hH hQ
        go_wp2_with fail
        go_region
        go_wp2_with fail
        go_meet
        exact ⟨by rw [H1.out], by rw [H2.out], RS.out.drewN 1⟩
    case rest =>
      obtain ⟨w3, rfl⟩ : ∃ W : World, W = wc := ⟨_, rfl⟩
      obtain ⟨rfl, rfl, hr3⟩ := hcut
      have R3 := Lib.hid hr3
      have hg3 := hr3.lt
      clear hr3 RS HHQ
      go_upto_region 6 with (go_at_call 135; refine (LW.out _).mono ?_; rintro e w4 ⟨rfl, hb4⟩; have R4 := Lib.hid (R3.out.step hb4); clear hb4)
      obtain ⟨g7, hg7⟩ : ∃ g, w4.heap.size = g := ⟨_, rfl⟩
      obtain ⟨w5, hw5⟩ : ∃ W, w4.alloc (.cells #[.string L, .int .i64 80, .string ⟨#[]⟩] 63) = W := ⟨_, rfl⟩
      have hg07 : g0 < g7 := by rw [← hg7]; exact R4.out.lt
      have R5 : Hid (Res g0 w w5) := Lib.hid (by rw [← hw5]; exact R4.out.alloc _)
      have U5 : Hid (RowAt w5 g7 63 [.string L, .int .i64 80, .string ⟨#[]⟩]) := Lib.hid (by rw [← hw5, ← hg7]; exact RowAt.new w4 _ [.string L, .int .i64 80, .string ⟨#[]⟩])
      rw [hw5, hg7]
      clear hw5 R4 R3 hg7
      by_cases hq : Q.data.toList = []
      · have e0 : (Q.toList == []) = true := by rw [beq_iff_eq, ByteArray.toList_eq]; exact hq
        have e1 : (Q.toList != []) = false := by rw [bne, e0]; rfl
        have HU2 : Hid (U = if ok = true then some (L.data.toList, 80) else none) := Lib.hid (by rw [HU.out, if_pos hq])
        clear hq HU
        go_upto_region 11 with fail
        refine wp_region_plan (fun W => Res g0 w W ∧ RowAt W g7 63 [.string L, .int .i64 80, .string ⟨#[]⟩]) [(0, true), (1, true), (2, false), (3, false), (4, true)] (by kernel_rfl) (by kernel_rfl) rfl (by kernel_rfl) (⟨(R5.out).drewN 1, (U5.out).below (below_drewN (Below.refl _ _) 1) U5.out.lt⟩) ?_
        intro w1 hH
        iterate 2
          refine plan_take (v := ?_) rfl (by rfl) ?_ ?_
          rotate_left
          · intro w2 hSw
            have z0 := hSw.2.cell (j := 0) rfl
            have z1 := hSw.2.cell (j := 1) rfl
            have z2 := hSw.2.cell (j := 2) rfl
            clear hSw
            go_simp
            try with_reducible rfl
          try simp only [Act.put, List.setIfInBounds_toArray, List.set_cons_zero, List.set_cons_succ]
        refine plan_move rfl (by rfl) (fun K hK => ?_)
        go_simp
        (with_reducible refine (NM.out _).mono ?_)
        rintro e w8 ⟨rfl, hb8⟩
        refine hK.out _ _ (⟨hH.out.1.step hb8, hH.out.2.below hb8 hH.out.2.lt⟩) ?_
        clear hH hK hb8 K
        intro hH
        try simp only [Act.put, List.setIfInBounds_toArray, List.set_cons_zero, List.set_cons_succ]
        refine plan_move rfl (by rfl) (fun K hK => ?_)
        obtain ⟨cs9, hc9, hr9⟩ := hH.out.1.row
        refine wp_store_row 63 _ _ rfl g0 63 [.string L, .int .i64 80, .string ⟨#[]⟩] cs9 rfl rfl hr9 (by rw [hc9]; rfl) (by kernel_rfl) uri_one ?_
        intro w9 hq9 ho9
        refine hK.out _ _ (⟨hH.out.1.stored ho9 hq9 rfl, hH.out.2.only ho9 (by omega)⟩) ?_
        have HQ9 := Lib.hid hq9
        have HB9 := Lib.hid (hH.out.1.stored ho9 hq9 rfl).below
        clear hH hK K hq9 ho9 hc9 hr9
        intro hH
        try simp only [Act.put]
        iterate 1
          refine plan_take (v := ?_) rfl (by rfl) ?_ ?_
          rotate_left
          · intro w2 hSw
            have z0 := hSw.2.cell (j := 0) rfl
            have z1 := hSw.2.cell (j := 1) rfl
            have z2 := hSw.2.cell (j := 2) rfl
            clear hSw
            go_simp
            try with_reducible rfl
          try simp only [Act.put, List.setIfInBounds_toArray, List.set_cons_zero, List.set_cons_succ]
        refine plan_done ?_
        have q0 := HQ9.out.cell (j := 0) rfl
        have q1 := HQ9.out.cell (j := 1) rfl
        have q2 := HQ9.out.cell (j := 2) rfl
        go_wp2_with fail
        exact bodyPost_ret (v := .tuple #[.agg #[.string L, .int .i64 80, .string ⟨#[]⟩], .bool ok]) (by simp [results, Tryd.results93, go_sem, q0, q1, q2]) rfl ⟨⟨L, 80, by rw [HU2.out]; cases ok <;> rfl, by
          intro x hx
          rw [HU2.out] at hx
          cases ok with
          | false => simp at hx
          | true => simp at hx; subst hx; exact ⟨rfl, rfl⟩⟩, HB9.out⟩
      · have e0 : (Q.toList == []) = false := by rw [beq_eq_false_iff_ne, ByteArray.toList_eq]; exact hq
        have e1 : (Q.toList != []) = true := by rw [bne, e0]; rfl
        by_cases hn : n2 = 0 ∧ Q.size ≤ 5
        · have HU2 : Hid (U = if ok = true then some (L.data.toList, n1) else none) := Lib.hid (by rw [HU.out, if_neg hq, if_pos hn])
          obtain ⟨rfl, h5⟩ := hn
          have h5I : (Q.size : Int) ≤ 5 := by omega
          clear hq HU
          have e7 := U5.out.cell (j := 1) rfl
          have f7 := U5.out.frozen (j := 1) (by show 1 < 3; omega)
          go_upto_region 10 with (go_at_call 137; refine (NU.out _).mono ?_; rintro e w6 ⟨rfl, hb6⟩)
          have R6 := Lib.hid (R5.out.step hb6)
          have hu6 := U5.out.below hb6 U5.out.lt
          have e8 := hu6.cell (j := 1) rfl
          have f8 := hu6.frozen (j := 1) (by show 1 < 3; omega)
          have R7 := Lib.hid (R6.out.set (j := 1) (v := .int .i64 n1) hg07)
          have U7 := Lib.hid (hu6.set_ (j := 1) (by show 1 < 3; omega) (.int .i64 n1))
          clear hb6 R5 U5 e7 f7 hu6 R6
          go_upto_region 11 with fail
          obtain ⟨w7, hw7⟩ : ∃ W, w6.setCell ⟨g7, 1, none⟩ (.int .i64 n1) = W := ⟨_, rfl⟩
          rw [hw7] at R7 U7 ⊢
          have U7 : Hid (RowAt w7 g7 63 [.string L, .int .i64 n1, .string ⟨#[]⟩]) := U7
          clear hw7 e8 f8
          refine wp_region_plan (fun W => Res g0 w W ∧ RowAt W g7 63 [.string L, .int .i64 n1, .string ⟨#[]⟩]) [(0, true), (1, true), (2, false), (3, false), (4, true)] (by kernel_rfl) (by kernel_rfl) rfl (by kernel_rfl) (⟨(R7.out).drewN 1, (U7.out).below (below_drewN (Below.refl _ _) 1) U7.out.lt⟩) ?_
          intro w1 hH
          iterate 2
            refine plan_take (v := ?_) rfl (by rfl) ?_ ?_
            rotate_left
            · intro w2 hSw
              have z0 := hSw.2.cell (j := 0) rfl
              have z1 := hSw.2.cell (j := 1) rfl
              have z2 := hSw.2.cell (j := 2) rfl
              clear hSw
              go_simp
              try with_reducible rfl
            try simp only [Act.put, List.setIfInBounds_toArray, List.set_cons_zero, List.set_cons_succ]
          refine plan_move rfl (by rfl) (fun K hK => ?_)
          go_simp
          (with_reducible refine (NM.out _).mono ?_)
          rintro e w8 ⟨rfl, hb8⟩
          refine hK.out _ _ (⟨hH.out.1.step hb8, hH.out.2.below hb8 hH.out.2.lt⟩) ?_
          clear hH hK hb8 K
          intro hH
          try simp only [Act.put, List.setIfInBounds_toArray, List.set_cons_zero, List.set_cons_succ]
          refine plan_move rfl (by rfl) (fun K hK => ?_)
          obtain ⟨cs9, hc9, hr9⟩ := hH.out.1.row
          refine wp_store_row 63 _ _ rfl g0 63 [.string L, .int .i64 n1, .string ⟨#[]⟩] cs9 rfl rfl hr9 (by rw [hc9]; rfl) (by kernel_rfl) uri_one ?_
          intro w9 hq9 ho9
          refine hK.out _ _ (⟨hH.out.1.stored ho9 hq9 rfl, hH.out.2.only ho9 (by omega)⟩) ?_
          have HQ9 := Lib.hid hq9
          have HB9 := Lib.hid (hH.out.1.stored ho9 hq9 rfl).below
          clear hH hK K hq9 ho9 hc9 hr9
          intro hH
          try simp only [Act.put]
          iterate 1
            refine plan_take (v := ?_) rfl (by rfl) ?_ ?_
            rotate_left
            · intro w2 hSw
              have z0 := hSw.2.cell (j := 0) rfl
              have z1 := hSw.2.cell (j := 1) rfl
              have z2 := hSw.2.cell (j := 2) rfl
              clear hSw
              go_simp
              try with_reducible rfl
            try simp only [Act.put, List.setIfInBounds_toArray, List.set_cons_zero, List.set_cons_succ]
          refine plan_done ?_
          have q0 := HQ9.out.cell (j := 0) rfl
          have q1 := HQ9.out.cell (j := 1) rfl
          have q2 := HQ9.out.cell (j := 2) rfl
          go_wp2_with fail
          exact bodyPost_ret (v := .tuple #[.agg #[.string L, .int .i64 n1, .string ⟨#[]⟩], .bool ok]) (by simp [results, Tryd.results93, go_sem, q0, q1, q2]) rfl ⟨⟨L, n1, by rw [HU2.out]; cases ok <;> rfl, by
            intro x hx
            rw [HU2.out] at hx
            cases ok with
            | false => simp at hx
            | true => simp at hx; subst hx; exact ⟨rfl, rfl⟩⟩, HB9.out⟩
        · have hu : U = none := by rw [HU.out, if_neg hq, if_neg hn]; split <;> rfl
          have HU2 := Lib.hid hu
          clear hq HU hu
          by_cases h0 : n2 = 0
          · have h5I : (5 : Int) < (Q.size : Int) := by
              have : ¬ Q.size ≤ 5 := fun h => hn ⟨h0, h⟩
              omega
            subst h0
            clear hn
            go_wp2_with (first
              | (go_at_call 137; refine (NU.out _).mono ?_; rintro e w6 ⟨rfl, hb6⟩; have R6 := Lib.hid (R5.out.step hb6); obtain ⟨cs6, hc6, hr6⟩ := R6.out.row; clear hb6)
              | (refine wpList_store_row rfl 63 _ _ rfl g0 63 zeroC cs6 rfl rfl hr6 (by rw [hc6]; rfl) (by kernel_rfl) uri_one ?_; intro w9 hq9 ho9; have q0 := hq9.cell (j := 0) rfl; have q1 := hq9.cell (j := 1) rfl; have q2 := hq9.cell (j := 2) rfl))
            exact bodyPost_ret (v := .tuple #[.agg #[.string ⟨#[]⟩, .int .i64 0, .string ⟨#[]⟩], .bool false]) (by simp [results, Tryd.results93, go_sem, q0, q1, q2]) rfl ⟨⟨⟨#[]⟩, 0, by rw [HU2.out]; rfl, by intro x hx; rw [HU2.out] at hx; cases hx⟩, (R6.out.stored ho9 hq9 rfl).below⟩
          · have f0 : (n2 == 0) = false := by rw [beq_eq_false_iff_ne]; exact h0
            have f1 : (n2 != 0) = true := by rw [bne, f0]; rfl
            clear hn
            go_wp2_with (first
              | (go_at_call 137; refine (NU.out _).mono ?_; rintro e w6 ⟨rfl, hb6⟩; have R6 := Lib.hid (R5.out.step hb6); obtain ⟨cs6, hc6, hr6⟩ := R6.out.row; clear hb6)
              | (refine wpList_store_row rfl 63 _ _ rfl g0 63 zeroC cs6 rfl rfl hr6 (by rw [hc6]; rfl) (by kernel_rfl) uri_one ?_; intro w9 hq9 ho9; have q0 := hq9.cell (j := 0) rfl; have q1 := hq9.cell (j := 1) rfl; have q2 := hq9.cell (j := 2) rfl))
            exact bodyPost_ret (v := .tuple #[.agg #[.string ⟨#[]⟩, .int .i64 0, .string ⟨#[]⟩], .bool false]) (by simp [results, Tryd.results93, go_sem, q0, q1, q2]) rfl ⟨⟨⟨#[]⟩, 0, by rw [HU2.out]; rfl, by intro x hx; rw [HU2.out] at hx; cases hx⟩, (R6.out.stored ho9 hq9 rfl).below⟩
end Go.Proofs.YtaddefjkjlkjnaaDoor
