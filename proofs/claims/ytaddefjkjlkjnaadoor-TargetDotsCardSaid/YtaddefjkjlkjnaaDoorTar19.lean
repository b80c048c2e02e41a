/- Walks of layer 5: the URI of a text with a host beside it, by the code and by the document. Condition: texts within bounds; the world's shape. -/
import Derived.Test.YtaddefjkjlkjnaaDoorTar18
namespace Go.Proofs.YtaddefjkjlkjnaaDoor
open Go.RowKit IH
set_option maxRecDepth 100000
theorem pre1 (l : List UInt8) : Lib.hasPrefix l [47] = decide (l.head? = some 47) := by
  unfold Lib.hasPrefix
  match l with
  | [] => rfl
  | a :: r =>
    by_cases h1 : a = 47
    · subst h1; simp [List.isPrefixOf]
    · simp [List.isPrefixOf, h1]; intro h; exact h1 h.symm
theorem Res.only {g0 g : Nat} {w W W' : World} (h : Res g0 w W) (ho : Only g W W') (hg : g0 < g) : Res g0 w W' := by
  obtain ⟨h0, cs, hc, hr⟩ := h
  exact ⟨ho.below h0 (Nat.le_of_lt hg), cs, hc, hr.only ho (by omega)⟩
set_option maxHeartbeats 16000000 in
theorem of5_any (s t : ByteArray) (hs : s.size ≤ 1000000000) (ht : t.size ≤ 1000000000) (w : World) (hsh : w.ShapedOpen Tryd.prog) :
    Calls Tryd.prog 42 #[.string s, .string t] w fun e w' => e = .returned (.tuple #[.agg (uriC (ofU s.data.toList t.data.toList).1).toArray, .int .i64 (ofU s.data.toList t.data.toList).2]) ∧ Below w.heap.size w w' := by
  obtain ⟨U, hU⟩ : ∃ U, ofU s.data.toList t.data.toList = U := ⟨_, rfl⟩
  rw [hU]
  have hU0 := hU.symm
  unfold ofU at hU0
  rw [data_len, data_len] at hU0
  obtain ⟨g4, hg4⟩ : ∃ g, w.heap.size = g := ⟨_, rfl⟩
  obtain ⟨wa, hwa⟩ : ∃ wa, w.alloc (.cells zeroC.toArray 63) = wa := ⟨_, rfl⟩
  have RS : Hid (Res g4 w wa) := Lib.hid (by rw [← hwa, ← hg4]; exact Res.start w)
  rw [show zeroC.toArray = #[.string ⟨#[]⟩, .int .i64 0, .string ⟨#[]⟩] from rfl] at hwa
  rw [hg4]
  have SH := Lib.hid (fun (W : World) (hW : Res g4 w W) => shaped_below hsh (by rw [hg4]; exact hW.below))
  have SE := Lib.hid (fun w => seat_any t ht w)
  clear hsh hU
  go_enter Tryd.func42, Tryd.ntmps42
  go_upto_region 2 with (first
    | (go_at_call 93; refine (SE.out _).mono ?_; rintro e w3 ⟨⟨H, n, rfl, hHn⟩, hb3⟩; have R3 := Lib.hid (RS.out.step hb3); have HHN := Lib.hid hHn; clear hb3 hHn; obtain ⟨g6, hg6⟩ : ∃ g, w3.heap.size = g := ⟨_, rfl⟩; obtain ⟨w4, hw4⟩ : ∃ V, w3.alloc (.cells zeroC.toArray 63) = V := ⟨_, rfl⟩; have Z1 : Hid (RowAt w4 g6 63 zeroC) := Lib.hid (by rw [← hw4, ← hg6]; exact RowAt.new w3 _ _); have R4 : Hid (Res g4 w w4) := Lib.hid (by rw [← hw4]; exact R3.out.alloc _); have hlt : g4 < g6 := (by rw [← hg6]; exact R3.out.lt); rw [show zeroC.toArray = #[.string ⟨#[]⟩, .int .i64 0, .string ⟨#[]⟩] from rfl] at hw4)
    | (refine wpList_store_row rfl 63 _ _ rfl g6 63 [.string H, .int .i64 n, .string ⟨#[]⟩] zeroC rfl rfl Z1.out rfl (by kernel_rfl) uri_one ?_; intro w5 hq5 ho5; have Q5 := Lib.hid hq5; have R5 := Lib.hid (R4.out.only ho5 hlt); clear Z1 R4 R3 ho5 hq5 hg6 hw4))
  clear RS hwa hg4 SE
  obtain ⟨cs6, hc6, hr6⟩ := R5.out.row
  by_cases h8 : 8000 < s.size ∨ 8000 < t.size
  · rw [if_pos h8] at hU0
    have HU := Lib.hid hU0
    clear hU0
    by_cases h1 : 8000 < s.size
    · have hI : (8000 : Int) < (s.size : Int) := by omega
      clear h8 h1
      go_wp2_with (refine wpList_store_row rfl 63 _ _ rfl g4 63 [.string ⟨#[]⟩, .int .i64 0, .string ⟨#[]⟩] cs6 rfl rfl hr6 (by rw [hc6]; rfl) (by kernel_rfl) uri_one ?_; intro w9 hq9 ho9; have q0 := hq9.cell (j := 0) rfl; have q1 := hq9.cell (j := 1) rfl; have q2 := hq9.cell (j := 2) rfl)
      exact bodyPost_ret (v := .tuple #[.agg #[.string ⟨#[]⟩, .int .i64 0, .string ⟨#[]⟩], .int .i64 12]) (by simp [results, Tryd.results42, go_sem, q0, q1, q2]) rfl ⟨by rw [HU.out]; rfl, (R5.out.stored ho9 hq9 rfl).below⟩
    · have hI : ¬ ((8000 : Int) < (s.size : Int)) := by omega
      have hI2 : (8000 : Int) < (t.size : Int) := by omega
      clear h8 h1
      go_wp2_with (refine wpList_store_row rfl 63 _ _ rfl g4 63 [.string ⟨#[]⟩, .int .i64 0, .string ⟨#[]⟩] cs6 rfl rfl hr6 (by rw [hc6]; rfl) (by kernel_rfl) uri_one ?_; intro w9 hq9 ho9; have q0 := hq9.cell (j := 0) rfl; have q1 := hq9.cell (j := 1) rfl; have q2 := hq9.cell (j := 2) rfl)
      exact bodyPost_ret (v := .tuple #[.agg #[.string ⟨#[]⟩, .int .i64 0, .string ⟨#[]⟩], .int .i64 12]) (by simp [results, Tryd.results42, go_sem, q0, q1, q2]) rfl ⟨by rw [HU.out]; rfl, (R5.out.stored ho9 hq9 rfl).below⟩
  · rw [if_neg h8] at hU0
    have hI : ¬ ((8000 : Int) < (s.size : Int)) := by omega
    have hI2 : ¬ ((8000 : Int) < (t.size : Int)) := by omega
    obtain ⟨X, hX⟩ : ∃ X, seatL t.data.toList = X := ⟨_, rfl⟩
    rw [hX] at HHN hU0 ⊢
    cases X with
    | none =>
      rw [if_pos (show (none : Option (List UInt8 × Int)).isNone = true from rfl)] at hU0
      have HU := Lib.hid hU0
      rw [show (none : Option (List UInt8 × Int)).isSome = false from rfl]
      clear hU0 h8 hX
      go_wp2_with (refine wpList_store_row rfl 63 _ _ rfl g4 63 [.string ⟨#[]⟩, .int .i64 0, .string ⟨#[]⟩] cs6 rfl rfl hr6 (by rw [hc6]; rfl) (by kernel_rfl) uri_one ?_; intro w9 hq9 ho9; have q0 := hq9.cell (j := 0) rfl; have q1 := hq9.cell (j := 1) rfl; have q2 := hq9.cell (j := 2) rfl)
      exact bodyPost_ret (v := .tuple #[.agg #[.string ⟨#[]⟩, .int .i64 0, .string ⟨#[]⟩], .int .i64 10]) (by simp [results, Tryd.results42, go_sem, q0, q1, q2]) rfl ⟨by rw [HU.out]; rfl, (R5.out.stored ho9 hq9 rfl).below⟩
    | some x =>
      rw [if_neg (by simp)] at hU0
      rw [show (some x : Option (List UInt8 × Int)).isSome = true from rfl]
      have hx := HHN.out x rfl
      obtain ⟨hx1, hx2⟩ := x
      simp only at hx
      obtain ⟨hHl, rfl⟩ := hx
      have HP := fun w => HasPrefix_t s ⟨#[47]⟩ w
      rw [show (⟨#[47]⟩ : ByteArray).data.toList = [47] from rfl, pre1] at HP
      clear HHN hX
      by_cases h47 : s.data.toList.head? = some 47
      · rw [decide_eq_true h47] at HP
        rw [if_pos h47] at hU0
        replace HP := Lib.hid HP
        have PD := fun (W : World) (hW : Res g4 w W) => placed_any H n ⟨#[]⟩ s (by omega) W (SH.out W hW)
        obtain ⟨J, hJ⟩ : ∃ J, joinU (some (H.data.toList, n)) (placeL s.data.toList) = J := ⟨_, rfl⟩
        have HUJ : Hid (U = J) := Lib.hid (by rw [hU0, ← hJ, hHl])
        rw [hJ] at PD
        obtain ⟨JU, JE⟩ := J
        simp only [uriC] at PD
        replace PD := Lib.hid PD
        have u0 := Q5.out.cell (j := 0) rfl
        have u1 := Q5.out.cell (j := 1) rfl
        have u2 := Q5.out.cell (j := 2) rfl
        clear hJ hU0 hr6 hc6 h8 h47
        go_upto_region 7 with (go_at_call 98; refine (HP.out _).mono ?_; rintro e w' ⟨rfl, rfl⟩)
        go_wp2_with (first
          | (go_at_call 94; refine (PD.out _ R5.out).mono ?_; rintro e w8 ⟨rfl, hb8⟩; have R8 := Lib.hid (R5.out.step hb8); obtain ⟨cs6, hc6, hr6⟩ := R8.out.row; clear hb8)
          | (refine wpList_store_row rfl 63 _ _ rfl g4 63 [.string ⟨JU.host.toArray⟩, .int .i64 JU.port, .string ⟨JU.path.toArray⟩] cs6 rfl rfl hr6 (by rw [hc6]; rfl) (by kernel_rfl) uri_one ?_; intro w9 hq9 ho9; have q0 := hq9.cell (j := 0) rfl; have q1 := hq9.cell (j := 1) rfl; have q2 := hq9.cell (j := 2) rfl))
        exact bodyPost_ret (v := .tuple #[.agg #[.string ⟨JU.host.toArray⟩, .int .i64 JU.port, .string ⟨JU.path.toArray⟩], .int .i64 JE]) (by simp [results, Tryd.results42, go_sem, q0, q1, q2]) rfl ⟨by rw [HUJ.out]; rfl, (R8.out.stored ho9 hq9 rfl).below⟩
      · rw [decide_eq_false h47] at HP
        rw [if_neg h47] at hU0
        replace HP := Lib.hid HP
        have PA := fun (W : World) (hW : Res g4 w W) => parse5_any s (by omega) W (SH.out W hW)
        obtain ⟨J, hJ⟩ : ∃ J, parseU s.data.toList = J := ⟨_, rfl⟩
        have HUJ : Hid (U = J) := Lib.hid (by rw [hU0, ← hJ])
        rw [hJ] at PA
        obtain ⟨JU, JE⟩ := J
        simp only [uriC] at PA
        replace PA := Lib.hid PA
        clear hJ hU0 hr6 hc6 h8 h47
        go_upto_region 8 with (go_at_call 98; refine (HP.out _).mono ?_; rintro e w' ⟨rfl, rfl⟩)
        go_wp2_with (first
          | (go_at_call 37; refine (PA.out _ R5.out).mono ?_; rintro e w8 ⟨rfl, hb8⟩; have R8 := Lib.hid (R5.out.step hb8); obtain ⟨cs6, hc6, hr6⟩ := R8.out.row; clear hb8)
          | (refine wpList_store_row rfl 63 _ _ rfl g4 63 [.string ⟨JU.host.toArray⟩, .int .i64 JU.port, .string ⟨JU.path.toArray⟩] cs6 rfl rfl hr6 (by rw [hc6]; rfl) (by kernel_rfl) uri_one ?_; intro w9 hq9 ho9; have q0 := hq9.cell (j := 0) rfl; have q1 := hq9.cell (j := 1) rfl; have q2 := hq9.cell (j := 2) rfl))
        exact bodyPost_ret (v := .tuple #[.agg #[.string ⟨JU.host.toArray⟩, .int .i64 JU.port, .string ⟨JU.path.toArray⟩], .int .i64 JE]) (by simp [results, Tryd.results42, go_sem, q0, q1, q2]) rfl ⟨by rw [HUJ.out]; rfl, (R8.out.stored ho9 hq9 rfl).below⟩
set_option maxHeartbeats 16000000 in
theorem refOf5_any (s t : ByteArray) (hs : s.size ≤ 1000000000) (ht : t.size ≤ 1000000000) (w : World) :
    Calls Tryd.prog 43 #[.string s, .string t] w fun e w' => e = .returned (.tuple #[.agg (uriC (ofU s.data.toList t.data.toList).1).toArray, .int .i64 (ofU s.data.toList t.data.toList).2]) ∧ Below w.heap.size w w' := by
  obtain ⟨U, hU⟩ : ∃ U, ofU s.data.toList t.data.toList = U := ⟨_, rfl⟩
  rw [hU]
  have hU0 := hU.symm
  unfold ofU at hU0
  rw [data_len, data_len] at hU0
  obtain ⟨g4, hg4⟩ : ∃ g, w.heap.size = g := ⟨_, rfl⟩
  obtain ⟨wa, hwa⟩ : ∃ wa, w.alloc (.cells zeroC.toArray 63) = wa := ⟨_, rfl⟩
  have RS : Hid (Res g4 w wa) := Lib.hid (by rw [← hwa, ← hg4]; exact Res.start w)
  rw [show zeroC.toArray = #[.string ⟨#[]⟩, .int .i64 0, .string ⟨#[]⟩] from rfl] at hwa
  rw [hg4]
  clear hU
  by_cases h8 : 8000 < s.size ∨ 8000 < t.size
  · rw [if_pos h8] at hU0
    have HU := Lib.hid hU0
    obtain ⟨cs6, hc6, hr6⟩ := RS.out.row
    clear hU0
    by_cases h1 : 8000 < s.size
    · have hI : (8000 : Int) < (s.size : Int) := by omega
      clear h8 h1
      go_enter Tryd.func43, Tryd.ntmps43
      go_wp2_with (refine wpList_store_row rfl 63 _ _ rfl g4 63 [.string ⟨#[]⟩, .int .i64 0, .string ⟨#[]⟩] cs6 rfl rfl hr6 (by rw [hc6]; rfl) (by kernel_rfl) uri_one ?_; intro w9 hq9 ho9; have q0 := hq9.cell (j := 0) rfl; have q1 := hq9.cell (j := 1) rfl; have q2 := hq9.cell (j := 2) rfl)
      exact bodyPost_ret (v := .tuple #[.agg #[.string ⟨#[]⟩, .int .i64 0, .string ⟨#[]⟩], .int .i64 12]) (by simp [results, Tryd.results43, go_sem, q0, q1, q2]) rfl ⟨by rw [HU.out]; rfl, (RS.out.stored ho9 hq9 rfl).below⟩
    · have hI : ¬ ((8000 : Int) < (s.size : Int)) := by omega
      have hI2 : (8000 : Int) < (t.size : Int) := by omega
      clear h8 h1
      go_enter Tryd.func43, Tryd.ntmps43
      go_wp2_with (refine wpList_store_row rfl 63 _ _ rfl g4 63 [.string ⟨#[]⟩, .int .i64 0, .string ⟨#[]⟩] cs6 rfl rfl hr6 (by rw [hc6]; rfl) (by kernel_rfl) uri_one ?_; intro w9 hq9 ho9; have q0 := hq9.cell (j := 0) rfl; have q1 := hq9.cell (j := 1) rfl; have q2 := hq9.cell (j := 2) rfl)
      exact bodyPost_ret (v := .tuple #[.agg #[.string ⟨#[]⟩, .int .i64 0, .string ⟨#[]⟩], .int .i64 12]) (by simp [results, Tryd.results43, go_sem, q0, q1, q2]) rfl ⟨by rw [HU.out]; rfl, (RS.out.stored ho9 hq9 rfl).below⟩
  · rw [if_neg h8] at hU0
    have hI : ¬ ((8000 : Int) < (s.size : Int)) := by omega
    have hI2 : ¬ ((8000 : Int) < (t.size : Int)) := by omega
    have SE := fun w => refSeat_any t ht w
    unfold seatR at SE
    obtain ⟨X, hX⟩ : ∃ X, seatL t.data.toList = X := ⟨_, rfl⟩
    rw [hX] at SE hU0
    clear hX
    cases X with
    | none =>
      rw [if_pos (show (none : Option (List UInt8 × Int)).isNone = true from rfl)] at hU0
      have HU := Lib.hid hU0
      simp only at SE
      replace SE := Lib.hid SE
      clear hU0 h8
      go_enter Tryd.func43, Tryd.ntmps43
      go_wp2_with (first
        | (go_at_call 96; refine (SE.out _).mono ?_; rintro e w8 ⟨rfl, hb8⟩; have R8 := Lib.hid (RS.out.step hb8); obtain ⟨cs6, hc6, hr6⟩ := R8.out.row; clear hb8)
        | (refine wpList_store_row rfl 63 _ _ rfl g4 63 [.string ⟨#[]⟩, .int .i64 0, .string ⟨#[]⟩] cs6 rfl rfl hr6 (by rw [hc6]; rfl) (by kernel_rfl) uri_one ?_; intro w9 hq9 ho9; have q0 := hq9.cell (j := 0) rfl; have q1 := hq9.cell (j := 1) rfl; have q2 := hq9.cell (j := 2) rfl))
      exact bodyPost_ret (v := .tuple #[.agg #[.string ⟨#[]⟩, .int .i64 0, .string ⟨#[]⟩], .int .i64 10]) (by simp [results, Tryd.results43, go_sem, q0, q1, q2]) rfl ⟨by rw [HU.out]; rfl, (R8.out.stored ho9 hq9 rfl).below⟩
    | some x =>
      rw [if_neg (by simp)] at hU0
      obtain ⟨hx, nx⟩ := x
      simp only at SE
      obtain ⟨H, hH⟩ : ∃ H : ByteArray, (⟨hx.toArray⟩ : ByteArray) = H := ⟨_, rfl⟩
      rw [hH] at SE
      have hHl : H.data.toList = hx := by rw [← hH]
      replace SE := Lib.hid SE
      clear hH
      have PE : s.data.toList.head? = some 47 → ∀ JU JE, U = (JU, JE) → ∀ W, Calls Tryd.prog 97 #[.string H, .int .i64 nx, .string s] W fun e w' => e = .returned (.tuple #[.agg #[.string ⟨JU.host.toArray⟩, .int .i64 JU.port, .string ⟨JU.path.toArray⟩], .int .i64 JE]) ∧ Below W.heap.size W w' := by
        intro h47 JU JE hj W
        have := refAt_any H nx s (by omega) W
        rw [if_pos h47, ← hHl] at hU0
        rw [← hU0, hj] at this
        exact this
      have PF : s.data.toList.head? ≠ some 47 → ∀ JU JE, U = (JU, JE) → ∀ W, Calls Tryd.prog 38 #[.string s] W fun e w' => e = .returned (.tuple #[.agg #[.string ⟨JU.host.toArray⟩, .int .i64 JU.port, .string ⟨JU.path.toArray⟩], .int .i64 JE]) ∧ Below W.heap.size W w' := by
        intro h47 JU JE hj W
        have := refParse5_any s (by omega) W
        rw [if_neg h47] at hU0
        rw [← hU0, hj] at this
        exact this
      obtain ⟨JU, JE⟩ := U
      clear hU0 h8
      by_cases hz : s.size = 0
      · have hzI : ¬ ((0 : Int) < (s.size : Int)) := by omega
        have hzl : s.data.toList = [] := List.eq_nil_of_length_eq_zero (by rw [data_len]; exact hz)
        have PG := Lib.hid (PF (by rw [hzl]; simp) _ _ rfl)
        clear PE PF hzl hz
        go_enter Tryd.func43, Tryd.ntmps43
        go_upto_region 6 with (go_at_call 96; refine (SE.out _).mono ?_; rintro e w5 ⟨rfl, hb5⟩; have R5 := Lib.hid (RS.out.step hb5); clear hb5)
        go_wp2_with (first
          | (go_at_call 38; refine (PG.out _).mono ?_; rintro e w8 ⟨rfl, hb8⟩; have R8 := Lib.hid (R5.out.step hb8); obtain ⟨cs6, hc6, hr6⟩ := R8.out.row; clear hb8)
          | (refine wpList_store_row rfl 63 _ _ rfl g4 63 [.string ⟨JU.host.toArray⟩, .int .i64 JU.port, .string ⟨JU.path.toArray⟩] cs6 rfl rfl hr6 (by rw [hc6]; rfl) (by kernel_rfl) uri_one ?_; intro w9 hq9 ho9; have q0 := hq9.cell (j := 0) rfl; have q1 := hq9.cell (j := 1) rfl; have q2 := hq9.cell (j := 2) rfl))
        exact bodyPost_ret (v := .tuple #[.agg #[.string ⟨JU.host.toArray⟩, .int .i64 JU.port, .string ⟨JU.path.toArray⟩], .int .i64 JE]) (by simp [results, Tryd.results43, go_sem, q0, q1, q2]) rfl ⟨rfl, (R8.out.stored ho9 hq9 rfl).below⟩
      · have h0s : 0 < s.size := by omega
        obtain ⟨c, hc⟩ : ∃ c, s[0] = c := ⟨_, rfl⟩
        have hd : s.data.toList.head? = some c := by rw [List.head?_eq_getElem?, get_data s 0 h0s, hc]
        have h0I : (0 : Int) < (s.size : Int) := by omega
        by_cases h47 : c = 47
        · subst h47
          have e47 : (((47 : UInt8).toNat : Int) == 47) = true := by decide
          have PG := Lib.hid (PE hd _ _ rfl)
          clear PE PF hd hz
          go_enter Tryd.func43, Tryd.ntmps43
          go_upto_region 6 with (go_at_call 96; refine (SE.out _).mono ?_; rintro e w5 ⟨rfl, hb5⟩; have R5 := Lib.hid (RS.out.step hb5); clear hb5)
          go_wp2_with (first
            | (go_at_call 97; refine (PG.out _).mono ?_; rintro e w8 ⟨rfl, hb8⟩; have R8 := Lib.hid (R5.out.step hb8); obtain ⟨cs6, hc6, hr6⟩ := R8.out.row; clear hb8)
            | (refine wpList_store_row rfl 63 _ _ rfl g4 63 [.string ⟨JU.host.toArray⟩, .int .i64 JU.port, .string ⟨JU.path.toArray⟩] cs6 rfl rfl hr6 (by rw [hc6]; rfl) (by kernel_rfl) uri_one ?_; intro w9 hq9 ho9; have q0 := hq9.cell (j := 0) rfl; have q1 := hq9.cell (j := 1) rfl; have q2 := hq9.cell (j := 2) rfl))
          exact bodyPost_ret (v := .tuple #[.agg #[.string ⟨JU.host.toArray⟩, .int .i64 JU.port, .string ⟨JU.path.toArray⟩], .int .i64 JE]) (by simp [results, Tryd.results43, go_sem, q0, q1, q2]) rfl ⟨rfl, (R8.out.stored ho9 hq9 rfl).below⟩
        · have e47 : ((c.toNat : Int) == 47) = false := by rw [byteLit c 47 47 rfl, beq_eq_false_iff_ne]; intro h; exact h47 (UInt8.toNat_inj.1 h)
          have PG := Lib.hid (PF (by rw [hd]; intro h; exact h47 (Option.some.inj h)) _ _ rfl)
          clear PE PF hd hz h47
          go_enter Tryd.func43, Tryd.ntmps43
          go_upto_region 6 with (go_at_call 96; refine (SE.out _).mono ?_; rintro e w5 ⟨rfl, hb5⟩; have R5 := Lib.hid (RS.out.step hb5); clear hb5)
          go_wp2_with (first
            | (go_at_call 38; refine (PG.out _).mono ?_; rintro e w8 ⟨rfl, hb8⟩; have R8 := Lib.hid (R5.out.step hb8); obtain ⟨cs6, hc6, hr6⟩ := R8.out.row; clear hb8)
            | (refine wpList_store_row rfl 63 _ _ rfl g4 63 [.string ⟨JU.host.toArray⟩, .int .i64 JU.port, .string ⟨JU.path.toArray⟩] cs6 rfl rfl hr6 (by rw [hc6]; rfl) (by kernel_rfl) uri_one ?_; intro w9 hq9 ho9; have q0 := hq9.cell (j := 0) rfl; have q1 := hq9.cell (j := 1) rfl; have q2 := hq9.cell (j := 2) rfl))
          exact bodyPost_ret (v := .tuple #[.agg #[.string ⟨JU.host.toArray⟩, .int .i64 JU.port, .string ⟨JU.path.toArray⟩], .int .i64 JE]) (by simp [results, Tryd.results43, go_sem, q0, q1, q2]) rfl ⟨rfl, (R8.out.stored ho9 hq9 rfl).below⟩
end Go.Proofs.YtaddefjkjlkjnaaDoor
