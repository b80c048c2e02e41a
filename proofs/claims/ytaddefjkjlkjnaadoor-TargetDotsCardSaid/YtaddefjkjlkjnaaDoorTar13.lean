/- Walks of layer 5: the URI of a text, by the code and by the document. Condition: the world's shape; at most 10^9 octets. -/
import Derived.Test.YtaddefjkjlkjnaaDoorTar6
import Derived.Test.YtaddefjkjlkjnaaDoorTar12
import Derived.Test.YtaddefjkjlkjnaaDoorKt
namespace Go.Proofs.YtaddefjkjlkjnaaDoor
open Go.RowKit IH
set_option maxRecDepth 100000
def firstAt (c : UInt8) (l : List UInt8) : Nat := (l.takeWhile (· != c)).length
theorem first_le (c : UInt8) (l : List UInt8) : firstAt c l ≤ l.length := (List.takeWhile_prefix (l := l) (fun x : UInt8 => x != c)).length_le
theorem first_ix (c : UInt8) (l : List UInt8) : (Lib.indexByte l c = -1 ∧ firstAt c l = l.length) ∨ (Lib.indexByte l c = (firstAt c l : Nat)) := by
  by_cases hm : c ∈ l
  · obtain ⟨a, b, h1, ha⟩ := List.eq_append_cons_of_mem hm
    have h2 : ∀ x ∈ a, x ≠ c := fun x hx e => ha (e ▸ hx)
    right
    unfold firstAt
    rw [h1, indexByte_mid c a b h2, (until_eq (d := c) (x := a) (r := b) h2).1]
  · have hno : ∀ x ∈ l, x ≠ c := fun x hx e => hm (e ▸ hx)
    left
    unfold firstAt
    rw [indexByte_no c l hno, (until_all hno).1]
    exact ⟨rfl, rfl⟩
theorem first_both (l : List UInt8) : (l.takeWhile offC).length = min (firstAt 47 l) (firstAt 63 l) := by
  induction l with
  | nil => rfl
  | cons c l ih =>
    unfold firstAt at ih ⊢
    by_cases h1 : c = 47
    · subst h1; simp [offC]
    · by_cases h2 : c = 63
      · subst h2; simp [offC]
      · have e : offC c = true := by simp [offC, h1, h2]
        rw [List.takeWhile_cons, if_pos e, List.takeWhile_cons, if_pos (by simpa using h1), List.takeWhile_cons, if_pos (by simpa using h2)]
        simp only [List.length_cons]
        rw [ih]
        omega
theorem off_take (l : List UInt8) : l.takeWhile offC = l.take (l.takeWhile offC).length ∧ l.dropWhile offC = l.drop (l.takeWhile offC).length := by
  have h := List.takeWhile_append_dropWhile (p := offC) (l := l)
  constructor
  · conv => rhs; arg 2; rw [← h]
    rw [List.take_left' rfl]
  · conv => rhs; arg 2; rw [← h]
    rw [List.drop_left' rfl]
theorem off_end (l : List UInt8) : ∀ k c, l[k]? = some c → k ≤ (l.takeWhile offC).length → (offC c = false ↔ k = (l.takeWhile offC).length) := by
  induction l with
  | nil => intro k c h; simp at h
  | cons d l ih =>
    intro k c hk hle
    cases hd : offC d with
    | false =>
      rw [List.takeWhile_cons, if_neg (by simp [hd])] at hle ⊢
      have h0 : k = 0 := by simpa using hle
      subst h0
      rw [List.getElem?_cons_zero] at hk
      rw [← Option.some.inj hk, hd]
      simp
    | true =>
      rw [List.takeWhile_cons, if_pos hd] at hle ⊢
      cases k with
      | zero =>
        rw [List.getElem?_cons_zero] at hk
        rw [← Option.some.inj hk, hd]
        simp
      | succ k =>
        rw [List.getElem?_cons_succ] at hk
        rw [List.length_cons] at hle ⊢
        rw [ih k c hk (by omega)]
        omega
theorem parse_at (s : ByteArray) (h8 : ¬ 8000 < s.size) (hb : begins5 s.data.toList = true) (R : ByteArray) (hR : R.data.toList = s.data.toList.drop 7) (N : Nat) (hN : (R.data.toList.takeWhile offC).length = N) :
    parseU s.data.toList = joinU (seatL (R.extract 0 N).data.toList) (placeL (R.extract N R.size).data.toList) := by
  obtain ⟨h1, h2⟩ := off_take R.data.toList
  have hle : N ≤ R.size := by rw [← hN, ← data_len]; exact (List.takeWhile_prefix _).length_le
  unfold parseU
  rw [data_len, if_neg h8, if_pos hb, ← hR, h1, h2, hN, take_data R N hle, drop_data]
set_option maxHeartbeats 16000000 in
theorem parse5_any (s : ByteArray) (hs : s.size ≤ 1000000000) (w : World) (hsh : w.ShapedOpen Tryd.prog) :
    Calls Tryd.prog 37 #[.string s] w fun e w' => e = .returned (.tuple #[.agg (uriC (parseU s.data.toList).1).toArray, .int .i64 (parseU s.data.toList).2]) ∧ Below w.heap.size w w' := by
  obtain ⟨U, hU⟩ : ∃ U, parseU s.data.toList = U := ⟨_, rfl⟩
  rw [hU]
  obtain ⟨g0, hg0⟩ : ∃ g0, w.heap.size = g0 := ⟨_, rfl⟩
  obtain ⟨wa, hwa⟩ : ∃ wa, w.alloc (.cells zeroC.toArray 63) = wa := ⟨_, rfl⟩
  have RS : Hid (Res g0 w wa) := Lib.hid (by rw [← hwa, ← hg0]; exact Res.start w)
  have ZS : Hid (RowAt wa g0 63 zeroC) := Lib.hid (by rw [← hwa, ← hg0]; exact RowAt.new w _ _)
  have HSH := Lib.hid (fun (W : World) (hb : Below g0 w W) => shaped_below hsh (by rw [hg0]; exact hb))
  rw [show zeroC.toArray = #[.string ⟨#[]⟩, .int .i64 0, .string ⟨#[]⟩] from rfl] at hwa
  rw [hg0]
  clear hsh
  by_cases h8 : 8000 < s.size
  · have hu : U = (zeroU, 12) := by rw [← hU]; unfold parseU; rw [data_len, if_pos h8]
    have HU := Lib.hid hu
    have hI : (8000 : Int) < (s.size : Int) := by omega
    clear hU hu
    go_enter Tryd.func37, Tryd.ntmps37
    go_wp2_with (refine wpList_store_row rfl 63 _ _ rfl g0 63 zeroC zeroC rfl rfl ZS.out rfl (by kernel_rfl) uri_one ?_; intro w9 hq9 ho9; have q0 := hq9.cell (j := 0) rfl; have q1 := hq9.cell (j := 1) rfl; have q2 := hq9.cell (j := 2) rfl)
    exact bodyPost_ret (v := .tuple #[.agg #[.string ⟨#[]⟩, .int .i64 0, .string ⟨#[]⟩], .int .i64 12]) (by simp [results, Tryd.results37, go_sem, q0, q1, q2]) rfl ⟨by rw [HU.out]; rfl, (RS.out.stored ho9 hq9 rfl).below⟩
  · have hI : (s.size : Int) ≤ 8000 := by omega
    have BG := fun w => begins_any s hs w
    cases hb : begins5 s.data.toList with
    | false =>
      have hu : U = (zeroU, 10) := by rw [← hU]; unfold parseU; rw [data_len, if_neg h8, if_neg (by simp [hb])]
      have HU := Lib.hid hu
      rw [hb, if_neg (by simp)] at BG
      replace BG := Lib.hid BG
      clear hU hu hb h8 ZS
      go_enter Tryd.func37, Tryd.ntmps37
      go_wp2_with (first
        | (go_at_call 91; refine (BG.out _).mono ?_; rintro e w3 ⟨rfl, hb3⟩; have R3 := Lib.hid (RS.out.step hb3); obtain ⟨cs6, hc6, hr6⟩ := R3.out.row; clear hb3)
        | (refine wpList_store_row rfl 63 _ _ rfl g0 63 zeroC cs6 rfl rfl hr6 (by rw [hc6]; rfl) (by kernel_rfl) uri_one ?_; intro w9 hq9 ho9; have q0 := hq9.cell (j := 0) rfl; have q1 := hq9.cell (j := 1) rfl; have q2 := hq9.cell (j := 2) rfl))
      exact bodyPost_ret (v := .tuple #[.agg #[.string ⟨#[]⟩, .int .i64 0, .string ⟨#[]⟩], .int .i64 10]) (by simp [results, Tryd.results37, go_sem, q0, q1, q2]) rfl ⟨by rw [HU.out]; rfl, (R3.out.stored ho9 hq9 rfl).below⟩
    | true =>
      rw [hb, if_pos rfl] at BG
      obtain ⟨R, hR⟩ : ∃ R : ByteArray, s.extract 7 s.size = R := ⟨_, rfl⟩
      have hRl : R.data.toList = s.data.toList.drop 7 := by rw [← hR, drop_data]
      obtain ⟨N, hN⟩ : ∃ N, (R.data.toList.takeWhile offC).length = N := ⟨_, rfl⟩
      have hpa := parse_at s h8 hb R hRl N hN
      rw [hR] at BG
      rw [hU] at hpa
      have hRs : R.size ≤ 8000 := by rw [← data_len, hRl, List.length_drop, data_len]; omega
      obtain ⟨f47, hf47⟩ : ∃ f, firstAt 47 R.data.toList = f := ⟨_, rfl⟩
      obtain ⟨f63, hf63⟩ : ∃ f, firstAt 63 R.data.toList = f := ⟨_, rfl⟩
      have hNm : N = min f47 f63 := by rw [← hN, first_both, hf47, hf63]
      have h47 := first_ix 47 R.data.toList
      have h63 := first_ix 63 R.data.toList
      have l47 := first_le 47 R.data.toList
      have l63 := first_le 63 R.data.toList
      rw [hf47, data_len] at h47 l47
      rw [hf63, data_len] at h63 l63
      have I47 := fun w => IndexByte_t R 47 w
      have I63 := fun w => IndexByte_t R 63 w
      obtain ⟨x47, hx47⟩ : ∃ x, Lib.indexByte R.data.toList 47 = x := ⟨_, rfl⟩
      obtain ⟨x63, hx63⟩ : ∃ x, Lib.indexByte R.data.toList 63 = x := ⟨_, rfl⟩
      rw [hx47] at h47 I47
      rw [hx63] at h63 I63
      rw [show (((47 : UInt8).toNat : Nat) : Int) = 47 from rfl] at I47
      rw [show (((63 : UInt8).toNat : Nat) : Int) = 63 from rfl] at I63
      replace I47 := Lib.hid I47
      replace I63 := Lib.hid I63
      replace BG := Lib.hid BG
      have hNR : N ≤ R.size := by omega
      obtain ⟨E, hE⟩ : ∃ E : ByteArray, R.extract 0 N = E := ⟨_, rfl⟩
      obtain ⟨D, hD⟩ : ∃ E : ByteArray, R.extract N R.size = E := ⟨_, rfl⟩
      rw [hE, hD] at hpa
      have hEs : E.size ≤ 8000 := by rw [← hE]; simp; omega
      have hDs : D.size ≤ 8000 := by rw [← hD]; simp; omega
      have HPA := Lib.hid hpa
      have H47 := Lib.hid h47
      have H63 := Lib.hid h63
      have HNM := Lib.hid hNm
      clear hU hb hRl hN hf47 hf63 hx47 hx63 hpa ZS h47 h63 hNm h8
      go_enter Tryd.func37, Tryd.ntmps37
      go_upto_region 7 with (go_at_call 91; refine (BG.out _).mono ?_; rintro e w3 ⟨rfl, hb3⟩; have R3 := Lib.hid (RS.out.step hb3); clear hb3)
      obtain ⟨g5, hg5⟩ : ∃ g, w3.heap.size = g := ⟨_, rfl⟩
      obtain ⟨w4, hw4⟩ : ∃ W, w3.alloc (.cells #[.int .u8 47, .int .u8 63] 5) = W := ⟨_, rfl⟩
      have R4 : Hid (Res g0 w w4) := Lib.hid (by rw [← hw4]; exact R3.out.alloc _)
      have A4 : Hid (RowAt w4 g5 5 [.int .u8 47, .int .u8 63]) := Lib.hid (by rw [← hw4, ← hg5]; exact RowAt.new w3 _ [.int .u8 47, .int .u8 63])
      have y0 := A4.out.cell (j := 0) rfl
      have y1 := A4.out.cell (j := 1) rfl
      go_upto_region 8 with fail
      go_wp2_with fail
      go_loopw [6, 27] (fun nv iv wr => wr = w4 ∧ ((nv = .int .i64 R.size ∧ iv = .int .i64 0) ∨ (nv = .int .i64 f47 ∧ iv = .int .i64 1) ∨ (nv = .int .i64 N ∧ iv = .int .i64 2))) (fun _ iv _ => 2 - (intOf iv).toNat)
      case atStart => exact ⟨by first | rfl | exact hw4 | trivial, .inl ⟨rfl, rfl⟩⟩
      case round =>
        obtain ⟨rfl, hor⟩ := hrel
        rcases hor with ⟨rfl, rfl⟩ | ⟨rfl, rfl⟩ | ⟨rfl, rfl⟩
        · rcases H47.out with ⟨hx, hf⟩ | hx
          · subst hx
            have hf' := Lib.hid hf
            go_wp2_with (go_at_call 92; refine (I47.out _).mono ?_; rintro e w5 ⟨rfl, rfl⟩)
            go_roundw
            case rel => exact ⟨by first | rfl | trivial, .inr (.inl ⟨by rw [hf'.out], by go_num⟩)⟩
            case measure => simp [intOf]
          · subst hx
            have hm : min (R.size : Int) (f47 : Int) = (f47 : Int) := by omega
            have h0 : (0 : Int) ≤ (f47 : Int) := by omega
            go_wp2_with (go_at_call 92; refine (I47.out _).mono ?_; rintro e w5 ⟨rfl, rfl⟩)
            go_roundw
            case rel => exact ⟨by first | rfl | trivial, .inr (.inl ⟨by first | rfl | simp [hm], by go_num⟩)⟩
            case measure => simp [intOf]
        · rcases H63.out with ⟨hx, hf⟩ | hx
          · subst hx
            have hf' : Hid (f47 = N) := Lib.hid (by have := HNM.out; omega)
            go_wp2_with (go_at_call 92; refine (I63.out _).mono ?_; rintro e w5 ⟨rfl, rfl⟩)
            go_roundw
            case rel => exact ⟨by first | rfl | trivial, .inr (.inr ⟨by rw [hf'.out], by go_num⟩)⟩
            case measure => simp [intOf]
          · subst hx
            have hm : min (f47 : Int) (f63 : Int) = (N : Int) := by have := HNM.out; omega
            have h0 : (0 : Int) ≤ (f63 : Int) := by omega
            go_wp2_with (go_at_call 92; refine (I63.out _).mono ?_; rintro e w5 ⟨rfl, rfl⟩)
            go_roundw
            case rel => exact ⟨by first | rfl | trivial, .inr (.inr ⟨by first | rfl | simp [hm], by go_num⟩)⟩
            case measure => simp [intOf]
        · have NI : (N : Int) ≤ (R.size : Int) := by omega
          have N0 : (0 : Int) ≤ (N : Int) := by omega
          have SE := fun w => seat_any E (by omega) w
          obtain ⟨X, hX⟩ : ∃ X, seatL E.data.toList = X := ⟨_, rfl⟩
          rw [hX] at SE HPA
          replace SE := Lib.hid SE
          clear hX y0 y1
          cases X with
          | none =>
            have HU : Hid (U = (zeroU, 10)) := Lib.hid (by rw [HPA.out]; rfl)
            go_wp2_with (first
              | (go_at_call 93; refine (SE.out _).mono ?_; rintro e w5 ⟨⟨H, n, rfl, _⟩, hb5⟩; have R5 := Lib.hid ((R4.out.step hb5).alloc (.cells #[.string H, .int .i64 n, .string ⟨#[]⟩] 63)); obtain ⟨cs6, hc6, hr6⟩ := R5.out.row; clear hb5)
              | (refine wpList_store_row rfl 63 _ _ rfl g0 63 zeroC cs6 rfl rfl hr6 (by rw [hc6]; rfl) (by kernel_rfl) uri_one ?_; intro w9 hq9 ho9; have q0 := hq9.cell (j := 0) rfl; have q1 := hq9.cell (j := 1) rfl; have q2 := hq9.cell (j := 2) rfl))
            exact bodyPost_ret (v := .tuple #[.agg #[.string ⟨#[]⟩, .int .i64 0, .string ⟨#[]⟩], .int .i64 10]) (by simp [results, Tryd.results37, go_sem, q0, q1, q2]) rfl ⟨by rw [HU.out]; rfl, (R5.out.stored ho9 hq9 rfl).below⟩
          | some x =>
            obtain ⟨hx, nx⟩ := x
            go_upto_region 15 with (go_at_call 93; refine (SE.out _).mono ?_; rintro e w5 ⟨⟨H, n, rfl, hHn⟩, hb5⟩; have R5 := Lib.hid (R4.out.step hb5); have HHN := Lib.hid (hHn _ rfl); clear hb5 hHn)
            obtain ⟨g7, hg7⟩ : ∃ g, w5.heap.size = g := ⟨_, rfl⟩
            obtain ⟨w6, hw6⟩ : ∃ W, w5.alloc (.cells #[.string H, .int .i64 n, .string ⟨#[]⟩] 63) = W := ⟨_, rfl⟩
            have hg07 : g0 < g7 := by rw [← hg7]; exact R5.out.lt
            have R6 : Hid (Res g0 w w6) := Lib.hid (by rw [← hw6]; exact R5.out.alloc _)
            have U6 : Hid (RowAt w6 g7 63 [.string H, .int .i64 n, .string ⟨#[]⟩]) := Lib.hid (by rw [← hw6, ← hg7]; exact RowAt.new w5 _ [.string H, .int .i64 n, .string ⟨#[]⟩])
            rw [hw6, hg7]
            clear hw6 R5 R4 hg7
            have PD := Lib.hid (fun (W : World) (hW : Below g0 w W) => placed_any H n ⟨#[]⟩ D (by omega) W (HSH.out W hW))
            obtain ⟨J, hJ⟩ : ∃ J, joinU (some (H.data.toList, n)) (placeL D.data.toList) = J := ⟨_, rfl⟩
            rw [hJ] at PD
            have HUJ : Hid (U = J) := Lib.hid (by rw [HPA.out, ← hJ, HHN.out.1, HHN.out.2])
            obtain ⟨JU, JE⟩ := J
            simp only [uriC] at PD
            clear hJ
            go_upto_region 17 with fail
            refine wp_region_plan (fun W => Res g0 w W ∧ RowAt W g7 63 [.string H, .int .i64 n, .string ⟨#[]⟩]) [(0, true), (1, true), (2, true), (3, true), (4, false), (5, true), (6, true), (7, false), (8, true)] (by kernel_rfl) (by kernel_rfl) rfl (by kernel_rfl) (⟨R6.out.drewN 1, U6.out.below (below_drewN (Below.refl _ _) 1) U6.out.lt⟩) ?_
            intro w1 hH
            iterate 4
              refine plan_take (v := ?_) rfl (by rfl) ?_ ?_
              rotate_left
              · intro w2 hSw
                have z0 := hSw.2.cell (j := 0) rfl
                have z1 := hSw.2.cell (j := 1) rfl
                have z2 := hSw.2.cell (j := 2) rfl
                clear hSw
                go_simp
                try with_reducible rfl
              try simp only [Act.put, List.setIfInBounds_toArray, List.set_cons_zero, List.set_cons_succ]
            refine plan_move rfl (by rfl) (fun K hK => ?_)
            go_simp
            (with_reducible refine (PD.out _ hH.out.1.below).mono ?_)
            rintro e w8 ⟨rfl, hb8⟩
            refine hK.out _ _ (⟨hH.out.1.step hb8, hH.out.2.below hb8 hH.out.2.lt⟩) ?_
            clear hH hK hb8 K
            intro hH
            try simp only [Act.put, List.setIfInBounds_toArray, List.set_cons_zero, List.set_cons_succ]
            iterate 2
              refine plan_take (v := ?_) rfl (by rfl) ?_ ?_
              rotate_left
              · intro w2 hSw
                have z0 := hSw.2.cell (j := 0) rfl
                have z1 := hSw.2.cell (j := 1) rfl
                have z2 := hSw.2.cell (j := 2) rfl
                clear hSw
                go_simp
                try with_reducible rfl
              try simp only [Act.put, List.setIfInBounds_toArray, List.set_cons_zero, List.set_cons_succ]
            refine plan_move rfl (by rfl) (fun K hK => ?_)
            obtain ⟨cs9, hc9, hr9⟩ := hH.out.1.row
            refine wp_store_row 63 _ _ rfl g0 63 [.string ⟨JU.host.toArray⟩, .int .i64 JU.port, .string ⟨JU.path.toArray⟩] cs9 rfl rfl hr9 (by rw [hc9]; rfl) (by kernel_rfl) uri_one ?_
            intro w9 hq9 ho9
            refine hK.out _ _ (⟨hH.out.1.stored ho9 hq9 rfl, hH.out.2.only ho9 (by omega)⟩) ?_
            have HQ9 := Lib.hid hq9
            have HB9 := Lib.hid (hH.out.1.stored ho9 hq9 rfl).below
            clear hH hK K hq9 ho9 hc9 hr9
            intro hH
            try simp only [Act.put]
            iterate 1
              refine plan_take (v := ?_) rfl (by rfl) ?_ ?_
              rotate_left
              · intro w2 hSw
                have z0 := hSw.2.cell (j := 0) rfl
                have z1 := hSw.2.cell (j := 1) rfl
                have z2 := hSw.2.cell (j := 2) rfl
                clear hSw
                go_simp
                try with_reducible rfl
              try simp only [Act.put, List.setIfInBounds_toArray, List.set_cons_zero, List.set_cons_succ]
            refine plan_done ?_
            have q0 := HQ9.out.cell (j := 0) rfl
            have q1 := HQ9.out.cell (j := 1) rfl
            have q2 := HQ9.out.cell (j := 2) rfl
            go_wp2_with fail
            exact bodyPost_ret (v := .tuple #[.agg #[.string ⟨JU.host.toArray⟩, .int .i64 JU.port, .string ⟨JU.path.toArray⟩], .int .i64 JE]) (by simp [results, Tryd.results37, go_sem, q0, q1, q2]) rfl ⟨by rw [HUJ.out]; rfl, HB9.out⟩
end Go.Proofs.YtaddefjkjlkjnaaDoor
