/- Lnb: several texts, one behind the other. -/
import Derived.Test.YtmcioedmjcbfbaaScr21
/- Walk of layer 27: the document's deed of a line, of some kinds. Condition: lines within 10^8 octets. -/
namespace Go.Proofs.Ytmcioedmjcbfbaa
open Go.RowKit IH
set_option maxRecDepth 100000
set_option maxHeartbeats 16000000 in
theorem refLine_d (K0 : Int) (hG : K0 = 1) (s : ByteArray) (hs : s.size ≤ 100000000) (hK0 : ∀ w0 ws, wordsL s.data.toList = w0 :: ws → kAt w0 (ws.length + 1) 11 = K0) (w : World) :
    Calls Try.prog 38 #[.string s] w fun e w' => rlineV (lineD s.data.toList) w.heap.size e w' ∧ Below w.heap.size w w' := by
  rw [← lineR_eq]
  obtain ⟨w0, ws, hW, hWj⟩ := words_join s.data.toList
  have hmb : ws.length ≤ 100000000 := by
    have h1 := congrArg List.length hWj
    rw [List.length_append, data_len] at h1
    have h2 := flat_len ws
    omega
  clear hWj
  have hle : ∀ x ∈ w0 :: ws, x.length ≤ 100000000 := fun x hx => by
    have := words_le (s := s.data.toList) (x := x) (by rw [hW]; exact hx)
    rw [data_len] at this
    omega
  have WD := Lib.hid (fun w => refWords_any s (by omega) w)
  have hU : lineR s.data.toList = lineW w0 ws := lineR_words hW
  have hK1 := hK0 w0 ws hW
  have hKL := kAt_line w0 ws
  rw [hK1] at hKL
  rw [← hU] at hKL
  obtain ⟨U, hUU⟩ : ∃ U, lineR s.data.toList = U := ⟨_, rfl⟩
  rw [hUU] at hKL ⊢
  change wordsL s.data.toList = w0 :: ws at hW
  rw [hW] at WD
  obtain ⟨m, hm⟩ : ∃ m, ws.length + 1 = m := ⟨_, rfl⟩
  rw [hm] at hKL hK1
  have HK1 := Lib.hid hK1
  clear hK0 hK1
  have hml : (w0 :: ws).length = m := by rw [← hm]; rfl
  rw [hml] at WD
  have HKL := Lib.hid hKL
  have HLE := Lib.hid hle
  have HML := Lib.hid hml
  have hm0 : 0 < m := by omega
  obtain ⟨g0, hg0⟩ : ∃ g0, w.heap.size = g0 := ⟨_, rfl⟩
  rw [hg0]
  obtain ⟨w1, hw1⟩ : ∃ w1, w.alloc (.cells zero8.toArray 53) = w1 := ⟨_, rfl⟩
  obtain ⟨w2, hw2⟩ : ∃ w2, w1.alloc (.cells NAMES27.toArray 9) = w2 := ⟨_, rfl⟩
  obtain ⟨w3, hw3⟩ : ∃ w3, w2.alloc (.cells COUNTS27.toArray 3) = w3 := ⟨_, rfl⟩
  have hz1 : w1.heap.size = g0 + 1 := by rw [← hw1]; simp [hg0]
  have hz2 : w2.heap.size = g0 + 2 := by rw [← hw2]; simp [hz1]
  have hz3 : w3.heap.size = g0 + 3 := by rw [← hw3]; simp [hz2]
  have B3 : Hid (Below g0 w w3) := Lib.hid (by rw [← hw3, ← hw2, ← hw1]; exact (((Below.refl _ _).alloc (by omega) _).alloc (by simp; omega) _).alloc (by simp; omega) _)
  have Z3 : Hid (RowAt w3 g0 53 zero8) := Lib.hid (by
    rw [← hw3, ← hw2, ← hw1, ← hg0]
    exact ((RowAt.new w 53 zero8).alloc _).alloc _)
  have N3 : Hid (RowAt w3 (g0 + 1) 9 NAMES27) := Lib.hid (by rw [← hw3, ← hw2, ← hz1]; exact (RowAt.new w1 9 NAMES27).alloc _)
  have C3 : Hid (RowAt w3 (g0 + 2) 3 COUNTS27) := Lib.hid (by rw [← hw3, ← hz2]; exact RowAt.new w2 3 COUNTS27)
  rw [show zero8.toArray = #[.int .i64 0, .int .i64 0, .int .i64 0, .slice none 0 0, .slice none 0 0, .slice none 0 0, .int .i64 0, .int .i64 0] from rfl] at hw1
  rw [names_lit] at hw2
  rw [counts_lit] at hw3
  clear hW hU hKL hUU hle hml
  go_enter Try.func38, Try.ntmps38
  go_wp2_with (go_at_call 60; refine (WD.out _).mono ?_; rintro e w4 ⟨v, rfl, hv, hb4⟩)
  obtain ⟨bw, cw, rfl, _, hbw, hcw⟩ := own_at hv (by omega)
  have HW : Hid (∀ j u, (strsV (w0 :: ws))[j]? = some u → w4.cell? ⟨bw, j, none⟩ = some u) := Lib.hid hcw
  have hz4 := hb4.size
  have BW4 : Hid (Below g0 w w4) := Lib.hid (B3.out.trans (hb4.mono (by omega)))
  have RZ4 := Lib.hid (Z3.out.below hb4 Z3.out.lt)
  have RN4 := Lib.hid (N3.out.below hb4 N3.out.lt)
  have RC4 := Lib.hid (C3.out.below hb4 C3.out.lt)
  obtain ⟨gd, hgd⟩ : ∃ gd, w4.heap.size = gd := ⟨_, rfl⟩
  have R4 : Hid (RowAt (w4.alloc (.cells #[.int .i64 (-1), .int .i64 0, .int .i64 0, .slice none 0 0, .slice none 0 0, .slice none 0 0, .int .i64 0, .int .i64 0] 53)) gd 53 (cells8 (Deed.of (kAt w0 m 0)) (.slice none 0 0) (.slice none 0 0) (.slice none 0 0))) := Lib.hid (by rw [← hgd]; exact RowAt.new w4 53 (cells8 (Deed.of (-1)) (.slice none 0 0) (.slice none 0 0) (.slice none 0 0)))
  have hgd0 : g0 + 3 ≤ gd := by omega
  rw [hgd] at hbw ⊢
  clear hv hcw hb4 hz4 B3 Z3 N3 C3 hw1 hw2 hw3 hz1 hz2 hz3 WD
  go_loopw [8] (fun i wr => ∃ k : Nat, k ≤ 11 ∧ i = .int .i64 k ∧ RowAt wr gd 53 (cells8 (Deed.of (kAt w0 m k)) (.slice none 0 0) (.slice none 0 0) (.slice none 0 0)) ∧ Below gd w4 wr) (fun i _ => 11 - (intOf i).toNat)
  case atStart => exact ⟨0, by omega, rfl, R4.out, (Below.refl _ _).alloc (by omega) _⟩
  case round =>
    clear R4
    obtain ⟨w5, rfl⟩ : ∃ w5 : World, w5 = wr := ⟨_, rfl⟩
    obtain ⟨k, hk, rfl, hrow, hbel⟩ := hrel
    have HR := Lib.hid hrow
    have HB := Lib.hid hbel
    by_cases hlt : k < 11
    · have cn := (RN4.out.below hbel (by omega)).cell (names_get hlt).1
      have cc := (RC4.out.below hbel (by omega)).cell (names_get hlt).2
      have c0 := (hbel.cell (p := ⟨bw, 0, none⟩) hbw).trans (HW.out 0 (.string ⟨w0.toArray⟩) rfl)
      have d0 := hrow.cell (j := 0) rfl
      have f0 := hrow.frozen (j := 0) (by show 0 < 8; omega)
      have hb1 : ((⟨w0.toArray⟩ : ByteArray).toList == (⟨(nameK k).toArray⟩ : ByteArray).toList) = decide (nameK k = w0) := by
        rw [ByteArray.toList_eq, ByteArray.toList_eq, Bool.eq_iff_iff, beq_iff_eq, decide_eq_true_eq]
        exact ⟨fun h => h.symm, fun h => h.symm⟩
      have HN : Hid (kAt w0 m (k + 1) = if nameK k = w0 ∧ (wordsN k < 0 ∨ wordsN k = (m : Int)) then (k : Int) else kAt w0 m k) := Lib.hid rfl
      clear hrow hbel
      generalize (⟨w0.toArray⟩ : ByteArray) = W0 at *
      generalize (⟨(nameK k).toArray⟩ : ByteArray) = X at *
      by_cases hn : nameK k = w0
      · rw [decide_eq_true hn] at hb1
        by_cases hc : wordsN k < 0 ∨ wordsN k = (m : Int)
        · have hnx := HN.out
          rw [if_pos ⟨hn, hc⟩] at hnx
          have HX := Lib.hid hnx
          generalize wordsN k = c at *
          have hR2 := fun v => HR.out.set_ (j := 0) (by show 0 < 8; omega) v
          have HR2 := Lib.hid hR2
          clear hnx HN hn hR2
          by_cases hneg : c < 0
          · clear hc
            go_wp2
            go_region
            go_wp2
            go_roundw
            case rel => exact ⟨k + 1, by omega, by go_num, by rw [HX.out]; exact (HR2.out _).drewN 1, below_drewN (HB.out.setCell (p := ⟨gd, 0, none⟩) (Nat.le_refl _) _) 1⟩
            case measure => simp [intOf]; omega
          · have hcm : c = (m : Int) := by omega
            subst hcm
            have e3 : ((m : Int) == (m : Int)) = true := by simp
            have e2 : decide ((m : Int) < 0) = false := decide_eq_false hneg
            clear hc
            go_wp2
            go_region
            go_wp2
            go_roundw
            case rel => exact ⟨k + 1, by omega, by go_num, by rw [HX.out]; exact (HR2.out _).drewN 1, below_drewN (HB.out.setCell (p := ⟨gd, 0, none⟩) (Nat.le_refl _) _) 1⟩
            case measure => simp [intOf]; omega
        · have hnx := HN.out
          rw [if_neg (fun h => hc h.2)] at hnx
          have HX := Lib.hid hnx
          generalize wordsN k = c at *
          have hneg : ¬ c < 0 := fun h => hc (.inl h)
          have e2 : decide (c < 0) = false := decide_eq_false hneg
          have e3 : (c == (m : Int)) = false := by rw [beq_eq_false_iff_ne]; exact fun h => hc (.inr h)
          clear hnx HN hn hc
          go_wp2
          go_region
          go_wp2
          go_roundw
          case rel => exact ⟨k + 1, by omega, by go_num, by rw [HX.out]; exact HR.out.drewN 1, below_drewN HB.out 1⟩
          case measure => simp [intOf]; omega
      · rw [decide_eq_false hn] at hb1
        have hnx := HN.out
        rw [if_neg (fun h => hn h.1)] at hnx
        have HX := Lib.hid hnx
        generalize wordsN k = c at *
        clear hnx HN hn
        go_wp2
        go_region
        go_wp2
        go_roundw
        case rel => exact ⟨k + 1, by omega, by go_num, by rw [HX.out]; exact HR.out.drewN 1, below_drewN HB.out 1⟩
        case measure => simp [intOf]; omega
    · have hK : kAt w0 m k = K0 := by have := HK1.out; rwa [show (11 : Nat) = k by omega] at this
      rw [hK] at HR
      have HKK := HKL
      have hgs : gd ≤ w5.heap.size := by rw [← hgd]; exact hbel.size
      clear hK HKL HK1 hrow hbel
      go_wp2
      go_loopw [9, 10, 11] (fun nV isV i wr => ∃ (j : Nat) (N : List Int), j + 1 ≤ m ∧ i = .int .i64 ((j : Int) + 1) ∧ NumsOk (ws.take j) N ∧ wr.ownsRow (gd + 1) 3 1 nV j (intsV N) ∧ wr.ownsRow (gd + 1) 4 1 isV j (boolsV ((ws.take j).map isNum)) ∧ RowAt wr gd 53 (cells8 (Deed.of K0) (.slice none 0 0) (.slice none 0 0) (.slice none 0 0)) ∧ Below gd w4 wr) (fun _ _ i _ => m - (intOf i).toNat)
      case atStart => exact ⟨0, [], hm0, rfl, trivial, World.ownsRow_nil _ _ _ _, World.ownsRow_nil _ _ _ _, HR.out, HB.out⟩
      case round =>
        clear HR HB hgs
        obtain ⟨w6, rfl⟩ : ∃ w6 : World, w6 = wr := ⟨_, rfl⟩
        obtain ⟨j, N, hj, rfl, hok, hnv, hiv, hrow, hbel⟩ := hrel
        have HR := Lib.hid hrow
        have HB := Lib.hid hbel
        have HNV := Lib.hid hnv
        have HIV := Lib.hid hiv
        have HOK := Lib.hid hok
        have hgs : gd + 1 ≤ w6.heap.size := hrow.lt
        by_cases hlt : j + 1 < m
        · obtain ⟨x, hx⟩ : ∃ x, ws[j]? = some x := ⟨_, List.getElem?_eq_getElem (by omega)⟩
          have c0 := (hbel.cell (p := ⟨bw, j + 1, none⟩) hbw).trans (HW.out (j + 1) (.string ⟨x.toArray⟩) (by simp [strsV, hx]))
          have hxl : (⟨x.toArray⟩ : ByteArray).size ≤ 1000000000 := by
            rw [size_mk]
            have := HLE.out x (List.mem_cons_of_mem _ (List.mem_of_getElem? hx))
            omega
          have NU : Hid (∀ w, Calls Try.prog 61 #[.string ⟨x.toArray⟩] w fun e w' => ∃ n, inI n ∧ e = .returned (.tuple #[.int .i64 n, .bool (isNum x)]) ∧ (∀ v, numP x = some v → n = v) ∧ Below w.heap.size w w') := Lib.hid (fun w => rnumber_any ⟨x.toArray⟩ hxl w)
          have HT : Hid (ws.take (j + 1) = ws.take j ++ [x]) := Lib.hid (by rw [List.take_add_one, hx]; rfl)
          have hjb : j ≤ 100000000 := by omega
          clear hrow hbel hnv hiv hok hx hxl
          generalize (⟨x.toArray⟩ : ByteArray) = X at *
          obtain ⟨b, hb⟩ : ∃ b, isNum x = b := ⟨_, rfl⟩
          rw [hb] at NU
          have Hb := Lib.hid hb
          clear hb
          go_wp2_with (first
            | (go_at_call 61; refine (NU.out _).mono ?_; rintro e w7 ⟨q, hq, rfl, hqv, hb7⟩; have hs7 := hb7.size; have O7 := Lib.hid (own_below HNV.out hb7); have I7 := Lib.hid (own_below HIV.out hb7); have R7 := Lib.hid (HR.out.below hb7 HR.out.lt); have B7 := Lib.hid (HB.out.trans (hb7.mono (by omega))); have HQ := Lib.hid hqv; clear hqv hb7 hq)
            | (at_builtin; refine wpList_app int_ty rfl _ _ rfl (gd + 1) _ _ _ rfl O7.out 1 1 [.int .i64 q] rfl (by rfl) (intsV_one [q]) (by omega) (by simp only [maxLen]; omega) (by omega) ?_; intro v8 w8 hown8 hgr8; have R8 := Lib.hid (R7.out.grown hgr8 (own_block O7.out) (by decide)); have I8 := Lib.hid (own_grown I7.out hgr8 (own_block O7.out) (by decide)); have B8 := Lib.hid (B7.out.grown hgr8 (by omega) fun k hk => Nat.le_of_succ_le (own_block O7.out k hk).choose_spec.2); have O8 := Lib.hid hown8; have hs8 := hgr8.size; clear hown8 hgr8)
            | (at_builtin; refine wpList_app bool_ty rfl _ _ rfl (gd + 1) _ _ _ rfl I8.out 1 1 [.bool b] rfl (by rfl) (boolsV_one [b]) (by omega) (by simp only [maxLen]; omega) (by omega) ?_; intro v9 w9 hown9 hgr9; have R9 := Lib.hid (R8.out.grown hgr9 (own_block I8.out) (by decide)); have O9 := Lib.hid (own_grown O8.out hgr9 (own_block I8.out) (by decide)); have B9 := Lib.hid (B8.out.grown hgr9 (by omega) fun k hk => Nat.le_of_succ_le (own_block I8.out k hk).choose_spec.2); have I9 := Lib.hid hown9; clear hown9 hgr9))
          go_roundw
          case rel =>
            refine ⟨j + 1, N ++ [q], hlt, by go_num, by rw [HT.out]; exact NumsOk.snoc HQ.out HOK.out, by rw [intsV_append]; exact O9.out, ?_, R9.out, B9.out⟩
            rw [HT.out, List.map_append, boolsV_append]
            simp only [List.map_cons, List.map_nil]
            rw [Hb.out]
            exact I9.out
          case measure => simp [intOf]; omega
        · have hwl : ws.length = j := by omega
          have hnv2 := hnv
          rw [List.take_of_length_le (by omega)] at hok hiv
          have HOK := Lib.hid hok
          have HIV := Lib.hid hiv
          clear hok hiv hnv hbel hlt hj
          have hjm : m = j + 1 := by omega
          have RZ6 := Lib.hid (RZ4.out.below HB.out (by omega))
          have BW6 := Lib.hid (BW4.out.trans (HB.out.mono (by omega)))
          have f1 := HR.out.frozen (j := 1) (by show 1 < 8; omega)
          have f2 := HR.out.frozen (j := 2) (by show 2 < 8; omega)
          have f3 := HR.out.frozen (j := 3) (by show 3 < 8; omega)
          have f4 := HR.out.frozen (j := 4) (by show 4 < 8; omega)
          have f5 := HR.out.frozen (j := 5) (by show 5 < 8; omega)
          have f6 := HR.out.frozen (j := 6) (by show 6 < 8; omega)
          have f7 := HR.out.frozen (j := 7) (by show 7 < 8; omega)
          clear RN4 RC4 RZ4 BW4 HML hmb hm0 hs hk hlt hwl
          subst hG
          obtain ⟨k', hk', hkk, hc, hu⟩ := HKK.out.resolve_left (fun h => absurd h.1 (by omega))
          obtain rfl : k' = 1 := by omega
          have hm2 : m = 3 := by simp [wordsN] at hc; omega
          clear hc HKK hk' hkk
          have e0 : w6.cell? ⟨gd, 0, none⟩ = some (.int .i64 1) := HR.out.cell (j := 0) rfl
          have e1 : w6.cell? ⟨gd, 1, none⟩ = some (.int .i64 0) := HR.out.cell (j := 1) rfl
          have e2 : w6.cell? ⟨gd, 2, none⟩ = some (.int .i64 0) := HR.out.cell (j := 2) rfl
          have e3 : w6.cell? ⟨gd, 3, none⟩ = some (.slice none 0 0) := HR.out.cell (j := 3) rfl
          have e4 : w6.cell? ⟨gd, 4, none⟩ = some (.slice none 0 0) := HR.out.cell (j := 4) rfl
          have e5 : w6.cell? ⟨gd, 5, none⟩ = some (.slice none 0 0) := HR.out.cell (j := 5) rfl
          have e6 : w6.cell? ⟨gd, 6, none⟩ = some (.int .i64 0) := HR.out.cell (j := 6) rfl
          have e7 : w6.cell? ⟨gd, 7, none⟩ = some (.int .i64 0) := HR.out.cell (j := 7) rfl
          obtain ⟨a, q, rfl⟩ : ∃ a a', ws = [a, a'] := len2 (by omega)
          obtain ⟨n, n2, rfl⟩ : ∃ n n2, N = [n, n2] := len2 (by have := HOK.out.length; simpa using this)
          have hna := numP_is HOK.out.1
          obtain ⟨bn, cn, rfl, hbn, hbn2, hcn⟩ := own_at hnv2 (by omega)
          obtain ⟨bi, ci, rfl, hbi, hbi2, hci⟩ := own_at HIV.out (by omega)
          have a0 := hcn 0 _ rfl
          have b0 := hci 0 _ rfl
          obtain ⟨b, hb⟩ : ∃ b, isNum a = b := ⟨_, rfl⟩
          rw [hb] at hna b0
          have c2 := (HB.out.cell (p := ⟨bw, 2, none⟩) hbw).trans (HW.out 2 (.string ⟨q.toArray⟩) rfl)
          obtain ⟨X, hX⟩ : ∃ X : ByteArray, (⟨q.toArray⟩ : ByteArray) = X := ⟨_, rfl⟩
          have hXl : X.data.toList = q := by rw [← hX]
          have hXs : X.size = q.length := by rw [← data_len, hXl]
          have hq8 : q.length ≤ 100000000 := HLE.out q (by simp)
          have UQ := fun w => refUnquote27_any X (by omega) w
          rw [hXl] at UQ
          rw [hX] at c2
          obtain ⟨bb, hbb⟩ : ∃ bb, (unquote27 q).1 = bb := ⟨_, rfl⟩
          obtain ⟨L, hL⟩ : ∃ L, (unquote27 q).2.1 = L := ⟨_, rfl⟩
          obtain ⟨E, hE⟩ : ∃ E, (unquote27 q).2.2 = E := ⟨_, rfl⟩
          rw [hbb, hL, hE] at UQ
          replace UQ := Lib.hid UQ
          obtain ⟨t1, ht1⟩ : ∃ t1, (E == 0) = t1 := ⟨_, rfl⟩
          obtain ⟨t2, ht2⟩ : ∃ t2, (L == (X.size : Int)) = t2 := ⟨_, rfl⟩
          have HUU : Hid (U = if (b && t1 && t2) = true then some { Deed.of 1 with conn := n, b := bb } else none) := Lib.hid (by
            have hu2 : U = match numP a, octW q with
              | some c, some b => some { Deed.of 1 with conn := c, b := b }
              | _, _ => none := hu
            have ho : octW q = if (t1 && t2) = true then some bb else none := by
              unfold octW
              rw [hbb, hL, hE, ← ht1, ← ht2, hXs]
              simp only [Bool.and_eq_true, beq_iff_eq]
            rw [hu2, hna, ho]; cases b <;> cases t1 <;> cases t2 <;> rfl)
          clear hu hna hb hX hXl hXs hbb hL hE hq8 hcn hci HIV HOK hnv2 HW HLE f2 f4 f5 f6 f7 e1 e2 e3 e4 e5 e6 e7 f1 f3
          go_upto_region 22 with (first
            | (go_at_call 31; refine (UQ.out _).mono ?_; rintro e w7 ⟨v, rfl, hv, hb7⟩; obtain ⟨A3, cA, rfl, _⟩ := own_slice hv; have R7 := Lib.hid (HR.out.below hb7 HR.out.lt); have RZ7 := Lib.hid (RZ6.out.below hb7 RZ6.out.lt); have BW7 := Lib.hid (BW6.out.trans (hb7.mono (by omega))); have V7 := Lib.hid (own_base hv (show gd + 1 ≤ w6.heap.size from hgs)); have a0' := (hb7.cell (p := ⟨bn, 0, none⟩) hbn2).trans a0; have b0' := (hb7.cell (p := ⟨bi, 0, none⟩) hbi2).trans b0; have c2' := (hb7.cell (p := ⟨bw, 2, none⟩) (by show bw < w6.heap.size; omega)).trans c2; have e0 : w7.cell? ⟨gd, 0, none⟩ = some (.int .i64 1) := R7.out.cell (j := 0) rfl; have e1 : w7.cell? ⟨gd, 1, none⟩ = some (.int .i64 0) := R7.out.cell (j := 1) rfl; have e2 : w7.cell? ⟨gd, 2, none⟩ = some (.int .i64 0) := R7.out.cell (j := 2) rfl; have e3 : w7.cell? ⟨gd, 3, none⟩ = some (.slice none 0 0) := R7.out.cell (j := 3) rfl; have e4 : w7.cell? ⟨gd, 4, none⟩ = some (.slice none 0 0) := R7.out.cell (j := 4) rfl; have e5 : w7.cell? ⟨gd, 5, none⟩ = some (.slice none 0 0) := R7.out.cell (j := 5) rfl; have e6 : w7.cell? ⟨gd, 6, none⟩ = some (.int .i64 0) := R7.out.cell (j := 6) rfl; have e7 : w7.cell? ⟨gd, 7, none⟩ = some (.int .i64 0) := R7.out.cell (j := 7) rfl; have f1 := R7.out.frozen (j := 1) (by show 1 < 8; omega); have f3 := R7.out.frozen (j := 3) (by show 3 < 8; omega); clear hv hb7))
          obtain ⟨w8, hw8⟩ : ∃ W, (w7.setCell ⟨gd, 1, none⟩ (.int .i64 n)).setCell ⟨gd, 3, none⟩ (.slice A3 bb.length cA) = W := ⟨_, rfl⟩
          rw [hw8]
          have Rw8 : Hid (RowAt w8 gd 53 (cells8 { Deed.of 1 with conn := n, b := bb } (.slice A3 bb.length cA) (.slice none 0 0) (.slice none 0 0))) := Lib.hid (by rw [← hw8]; exact ((R7.out.set_ (j := 1) (by show 1 < 8; omega) (.int .i64 n)).set_ (j := 3) (by show 3 < 8; omega) (.slice A3 bb.length cA)))
          have RZw8 : Hid (RowAt w8 g0 53 zero8) := Lib.hid (by rw [← hw8]; exact ((RZ7.out.far (p := ⟨gd, 1, none⟩) (by show g0 ≠ gd; omega) _).far (p := ⟨gd, 3, none⟩) (by show g0 ≠ gd; omega) _))
          have BWw8 : Hid (Below g0 w w8) := Lib.hid (by rw [← hw8]; exact ((BW7.out.setCell (p := ⟨gd, 1, none⟩) (by show g0 ≤ gd; omega) _).setCell (p := ⟨gd, 3, none⟩) (by show g0 ≤ gd; omega) _))
          have KKw8 : Hid (Kept3 w7 w8) := Lib.hid (by rw [← hw8]; exact Kept3.only (((Only.setCell gd 1 w7 (.int .i64 n))).trans (Only.setCell gd 3 (w7.setCell ⟨gd, 1, none⟩ (.int .i64 n)) (.slice A3 bb.length cA))) R7.out (by decide))
          have b0'w8 : w8.cell? ⟨bi, 0, none⟩ = some (.bool b) := by rw [← hw8]; exact (far_cell (p := ⟨gd, 3, none⟩) (far_cell (p := ⟨gd, 1, none⟩) b0' (by show bi ≠ gd; omega)) (by show bi ≠ gd; omega))
          have c2'w8 : w8.cell? ⟨bw, 2, none⟩ = some (.string X) := by rw [← hw8]; exact (far_cell (p := ⟨gd, 3, none⟩) (far_cell (p := ⟨gd, 1, none⟩) c2' (by show bw ≠ gd; omega)) (by show bw ≠ gd; omega))
          clear hw8 b0' c2'
          have O8 : Hid (Own3 w8 (gd + 1) { Deed.of 1 with conn := n, b := bb } (.slice A3 bb.length cA) (.slice none 0 0) (.slice none 0 0)) := Lib.hid ⟨own_keep V7.out fun k cur hh => KKw8.out k cur _ (.inl rfl) hh, World.ownsRow_nil _ _ _ _, World.ownsRow_nil _ _ _ _⟩
          clear KKw8 V7 R7 RZ7 BW7 UQ a0' e0 f1 f3 a0 b0 c2
          try clear e1
          try clear e2
          try clear e3
          try clear e4
          try clear e5
          try clear e6
          try clear e7
          have e0w8 : w8.cell? ⟨gd, 0, none⟩ = some (.int .i64 1) := Rw8.out.cell (j := 0) rfl
          have e1w8 : w8.cell? ⟨gd, 1, none⟩ = some (.int .i64 n) := Rw8.out.cell (j := 1) rfl
          have e2w8 : w8.cell? ⟨gd, 2, none⟩ = some (.int .i64 0) := Rw8.out.cell (j := 2) rfl
          have e3w8 : w8.cell? ⟨gd, 3, none⟩ = some (.slice A3 bb.length cA) := Rw8.out.cell (j := 3) rfl
          have e4w8 : w8.cell? ⟨gd, 4, none⟩ = some (.slice none 0 0) := Rw8.out.cell (j := 4) rfl
          have e5w8 : w8.cell? ⟨gd, 5, none⟩ = some (.slice none 0 0) := Rw8.out.cell (j := 5) rfl
          have e6w8 : w8.cell? ⟨gd, 6, none⟩ = some (.int .i64 0) := Rw8.out.cell (j := 6) rfl
          have e7w8 : w8.cell? ⟨gd, 7, none⟩ = some (.int .i64 0) := Rw8.out.cell (j := 7) rfl
          cases b with
          | false =>
            go_wp2_with (first
              | (refine wpList_store_row rfl 53 _ _ rfl g0 53 zero8 zero8 rfl rfl RZw8.out rfl (by kernel_rfl) zero_one ?_; intro w9 hr9 ho9; have q0 := hr9.cell (j := 0) rfl; have q1 := hr9.cell (j := 1) rfl; have q2 := hr9.cell (j := 2) rfl; have q3 := hr9.cell (j := 3) rfl; have q4 := hr9.cell (j := 4) rfl; have q5 := hr9.cell (j := 5) rfl; have q6 := hr9.cell (j := 6) rfl; have q7 := hr9.cell (j := 7) rfl)
              | (refine wpList_store_row rfl 53 _ _ rfl g0 53 (cells8 { Deed.of 1 with conn := n, b := bb } (.slice A3 bb.length cA) (.slice none 0 0) (.slice none 0 0)) zero8 rfl rfl RZw8.out rfl (by kernel_rfl) (O8.out).one ?_; intro w9 hr9 ho9; have q0 := hr9.cell (j := 0) rfl; have q1 := hr9.cell (j := 1) rfl; have q2 := hr9.cell (j := 2) rfl; have q3 := hr9.cell (j := 3) rfl; have q4 := hr9.cell (j := 4) rfl; have q5 := hr9.cell (j := 5) rfl; have q6 := hr9.cell (j := 6) rfl; have q7 := hr9.cell (j := 7) rfl))
            have HU := HUU.out
            exact bodyPost_ret (v := .tuple #[.agg zero8.toArray, .bool false]) (by simp [results, Try.results38, go_sem, zero8, cells8, Deed.of, q0, q1, q2, q3, q4, q5, q6, q7]) rfl ⟨by rw [HU]; exact ⟨_, _, _, rfl, Own3.of _ _ _⟩, ho9.below BWw8.out (Nat.le_refl _)⟩
          | true =>
            cases t1 with
            | false =>
              go_wp2_with (first
                | (refine wpList_store_row rfl 53 _ _ rfl g0 53 zero8 zero8 rfl rfl RZw8.out rfl (by kernel_rfl) zero_one ?_; intro w9 hr9 ho9; have q0 := hr9.cell (j := 0) rfl; have q1 := hr9.cell (j := 1) rfl; have q2 := hr9.cell (j := 2) rfl; have q3 := hr9.cell (j := 3) rfl; have q4 := hr9.cell (j := 4) rfl; have q5 := hr9.cell (j := 5) rfl; have q6 := hr9.cell (j := 6) rfl; have q7 := hr9.cell (j := 7) rfl)
                | (refine wpList_store_row rfl 53 _ _ rfl g0 53 (cells8 { Deed.of 1 with conn := n, b := bb } (.slice A3 bb.length cA) (.slice none 0 0) (.slice none 0 0)) zero8 rfl rfl RZw8.out rfl (by kernel_rfl) (O8.out).one ?_; intro w9 hr9 ho9; have q0 := hr9.cell (j := 0) rfl; have q1 := hr9.cell (j := 1) rfl; have q2 := hr9.cell (j := 2) rfl; have q3 := hr9.cell (j := 3) rfl; have q4 := hr9.cell (j := 4) rfl; have q5 := hr9.cell (j := 5) rfl; have q6 := hr9.cell (j := 6) rfl; have q7 := hr9.cell (j := 7) rfl))
              have HU := HUU.out
              exact bodyPost_ret (v := .tuple #[.agg zero8.toArray, .bool false]) (by simp [results, Try.results38, go_sem, zero8, cells8, Deed.of, q0, q1, q2, q3, q4, q5, q6, q7]) rfl ⟨by rw [HU]; exact ⟨_, _, _, rfl, Own3.of _ _ _⟩, ho9.below BWw8.out (Nat.le_refl _)⟩
            | true =>
              cases t2 with
              | false =>
                go_wp2_with (first
                  | (refine wpList_store_row rfl 53 _ _ rfl g0 53 zero8 zero8 rfl rfl RZw8.out rfl (by kernel_rfl) zero_one ?_; intro w9 hr9 ho9; have q0 := hr9.cell (j := 0) rfl; have q1 := hr9.cell (j := 1) rfl; have q2 := hr9.cell (j := 2) rfl; have q3 := hr9.cell (j := 3) rfl; have q4 := hr9.cell (j := 4) rfl; have q5 := hr9.cell (j := 5) rfl; have q6 := hr9.cell (j := 6) rfl; have q7 := hr9.cell (j := 7) rfl)
                  | (refine wpList_store_row rfl 53 _ _ rfl g0 53 (cells8 { Deed.of 1 with conn := n, b := bb } (.slice A3 bb.length cA) (.slice none 0 0) (.slice none 0 0)) zero8 rfl rfl RZw8.out rfl (by kernel_rfl) (O8.out).one ?_; intro w9 hr9 ho9; have q0 := hr9.cell (j := 0) rfl; have q1 := hr9.cell (j := 1) rfl; have q2 := hr9.cell (j := 2) rfl; have q3 := hr9.cell (j := 3) rfl; have q4 := hr9.cell (j := 4) rfl; have q5 := hr9.cell (j := 5) rfl; have q6 := hr9.cell (j := 6) rfl; have q7 := hr9.cell (j := 7) rfl))
                have HU := HUU.out
                exact bodyPost_ret (v := .tuple #[.agg zero8.toArray, .bool false]) (by simp [results, Try.results38, go_sem, zero8, cells8, Deed.of, q0, q1, q2, q3, q4, q5, q6, q7]) rfl ⟨by rw [HU]; exact ⟨_, _, _, rfl, Own3.of _ _ _⟩, ho9.below BWw8.out (Nat.le_refl _)⟩
              | true =>
                go_wp2_with (first
                  | (refine wpList_store_row rfl 53 _ _ rfl g0 53 zero8 zero8 rfl rfl RZw8.out rfl (by kernel_rfl) zero_one ?_; intro w9 hr9 ho9; have q0 := hr9.cell (j := 0) rfl; have q1 := hr9.cell (j := 1) rfl; have q2 := hr9.cell (j := 2) rfl; have q3 := hr9.cell (j := 3) rfl; have q4 := hr9.cell (j := 4) rfl; have q5 := hr9.cell (j := 5) rfl; have q6 := hr9.cell (j := 6) rfl; have q7 := hr9.cell (j := 7) rfl)
                  | (refine wpList_store_row rfl 53 _ _ rfl g0 53 (cells8 { Deed.of 1 with conn := n, b := bb } (.slice A3 bb.length cA) (.slice none 0 0) (.slice none 0 0)) zero8 rfl rfl RZw8.out rfl (by kernel_rfl) (O8.out).one ?_; intro w9 hr9 ho9; have q0 := hr9.cell (j := 0) rfl; have q1 := hr9.cell (j := 1) rfl; have q2 := hr9.cell (j := 2) rfl; have q3 := hr9.cell (j := 3) rfl; have q4 := hr9.cell (j := 4) rfl; have q5 := hr9.cell (j := 5) rfl; have q6 := hr9.cell (j := 6) rfl; have q7 := hr9.cell (j := 7) rfl))
                have HU := HUU.out
                exact bodyPost_ret (v := .tuple #[.agg (cells8 { Deed.of 1 with conn := n, b := bb } (.slice A3 bb.length cA) (.slice none 0 0) (.slice none 0 0)).toArray, .bool true]) (by simp [results, Try.results38, go_sem, cells8, Deed.of, q0, q1, q2, q3, q4, q5, q6, q7]) rfl ⟨by rw [HU]; exact ⟨_, _, _, rfl, ((O8.out).keep (Kept3.only ho9 RZw8.out (by decide))).base (by omega)⟩, ho9.below BWw8.out (Nat.le_refl _)⟩
end Go.Proofs.Ytmcioedmjcbfbaa

/- Walk of layer 27: the document's deed of a line, of some kinds. Condition: lines within 10^8 octets. -/
namespace Go.Proofs.Ytmcioedmjcbfbaa
open Go.RowKit IH
set_option maxRecDepth 100000
set_option maxHeartbeats 16000000 in
theorem refLine_e (K0 : Int) (hG : K0 = 2) (s : ByteArray) (hs : s.size ≤ 100000000) (hK0 : ∀ w0 ws, wordsL s.data.toList = w0 :: ws → kAt w0 (ws.length + 1) 11 = K0) (w : World) :
    Calls Try.prog 38 #[.string s] w fun e w' => rlineV (lineD s.data.toList) w.heap.size e w' ∧ Below w.heap.size w w' := by
  rw [← lineR_eq]
  obtain ⟨w0, ws, hW, hWj⟩ := words_join s.data.toList
  have hmb : ws.length ≤ 100000000 := by
    have h1 := congrArg List.length hWj
    rw [List.length_append, data_len] at h1
    have h2 := flat_len ws
    omega
  clear hWj
  have hle : ∀ x ∈ w0 :: ws, x.length ≤ 100000000 := fun x hx => by
    have := words_le (s := s.data.toList) (x := x) (by rw [hW]; exact hx)
    rw [data_len] at this
    omega
  have WD := Lib.hid (fun w => refWords_any s (by omega) w)
  have hU : lineR s.data.toList = lineW w0 ws := lineR_words hW
  have hK1 := hK0 w0 ws hW
  have hKL := kAt_line w0 ws
  rw [hK1] at hKL
  rw [← hU] at hKL
  obtain ⟨U, hUU⟩ : ∃ U, lineR s.data.toList = U := ⟨_, rfl⟩
  rw [hUU] at hKL ⊢
  change wordsL s.data.toList = w0 :: ws at hW
  rw [hW] at WD
  obtain ⟨m, hm⟩ : ∃ m, ws.length + 1 = m := ⟨_, rfl⟩
  rw [hm] at hKL hK1
  have HK1 := Lib.hid hK1
  clear hK0 hK1
  have hml : (w0 :: ws).length = m := by rw [← hm]; rfl
  rw [hml] at WD
  have HKL := Lib.hid hKL
  have HLE := Lib.hid hle
  have HML := Lib.hid hml
  have hm0 : 0 < m := by omega
  obtain ⟨g0, hg0⟩ : ∃ g0, w.heap.size = g0 := ⟨_, rfl⟩
  rw [hg0]
  obtain ⟨w1, hw1⟩ : ∃ w1, w.alloc (.cells zero8.toArray 53) = w1 := ⟨_, rfl⟩
  obtain ⟨w2, hw2⟩ : ∃ w2, w1.alloc (.cells NAMES27.toArray 9) = w2 := ⟨_, rfl⟩
  obtain ⟨w3, hw3⟩ : ∃ w3, w2.alloc (.cells COUNTS27.toArray 3) = w3 := ⟨_, rfl⟩
  have hz1 : w1.heap.size = g0 + 1 := by rw [← hw1]; simp [hg0]
  have hz2 : w2.heap.size = g0 + 2 := by rw [← hw2]; simp [hz1]
  have hz3 : w3.heap.size = g0 + 3 := by rw [← hw3]; simp [hz2]
  have B3 : Hid (Below g0 w w3) := Lib.hid (by rw [← hw3, ← hw2, ← hw1]; exact (((Below.refl _ _).alloc (by omega) _).alloc (by simp; omega) _).alloc (by simp; omega) _)
  have Z3 : Hid (RowAt w3 g0 53 zero8) := Lib.hid (by
    rw [← hw3, ← hw2, ← hw1, ← hg0]
    exact ((RowAt.new w 53 zero8).alloc _).alloc _)
  have N3 : Hid (RowAt w3 (g0 + 1) 9 NAMES27) := Lib.hid (by rw [← hw3, ← hw2, ← hz1]; exact (RowAt.new w1 9 NAMES27).alloc _)
  have C3 : Hid (RowAt w3 (g0 + 2) 3 COUNTS27) := Lib.hid (by rw [← hw3, ← hz2]; exact RowAt.new w2 3 COUNTS27)
  rw [show zero8.toArray = #[.int .i64 0, .int .i64 0, .int .i64 0, .slice none 0 0, .slice none 0 0, .slice none 0 0, .int .i64 0, .int .i64 0] from rfl] at hw1
  rw [names_lit] at hw2
  rw [counts_lit] at hw3
  clear hW hU hKL hUU hle hml
  go_enter Try.func38, Try.ntmps38
  go_wp2_with (go_at_call 60; refine (WD.out _).mono ?_; rintro e w4 ⟨v, rfl, hv, hb4⟩)
  obtain ⟨bw, cw, rfl, _, hbw, hcw⟩ := own_at hv (by omega)
  have HW : Hid (∀ j u, (strsV (w0 :: ws))[j]? = some u → w4.cell? ⟨bw, j, none⟩ = some u) := Lib.hid hcw
  have hz4 := hb4.size
  have BW4 : Hid (Below g0 w w4) := Lib.hid (B3.out.trans (hb4.mono (by omega)))
  have RZ4 := Lib.hid (Z3.out.below hb4 Z3.out.lt)
  have RN4 := Lib.hid (N3.out.below hb4 N3.out.lt)
  have RC4 := Lib.hid (C3.out.below hb4 C3.out.lt)
  obtain ⟨gd, hgd⟩ : ∃ gd, w4.heap.size = gd := ⟨_, rfl⟩
  have R4 : Hid (RowAt (w4.alloc (.cells #[.int .i64 (-1), .int .i64 0, .int .i64 0, .slice none 0 0, .slice none 0 0, .slice none 0 0, .int .i64 0, .int .i64 0] 53)) gd 53 (cells8 (Deed.of (kAt w0 m 0)) (.slice none 0 0) (.slice none 0 0) (.slice none 0 0))) := Lib.hid (by rw [← hgd]; exact RowAt.new w4 53 (cells8 (Deed.of (-1)) (.slice none 0 0) (.slice none 0 0) (.slice none 0 0)))
  have hgd0 : g0 + 3 ≤ gd := by omega
  rw [hgd] at hbw ⊢
  clear hv hcw hb4 hz4 B3 Z3 N3 C3 hw1 hw2 hw3 hz1 hz2 hz3 WD
  go_loopw [8] (fun i wr => ∃ k : Nat, k ≤ 11 ∧ i = .int .i64 k ∧ RowAt wr gd 53 (cells8 (Deed.of (kAt w0 m k)) (.slice none 0 0) (.slice none 0 0) (.slice none 0 0)) ∧ Below gd w4 wr) (fun i _ => 11 - (intOf i).toNat)
  case atStart => exact ⟨0, by omega, rfl, R4.out, (Below.refl _ _).alloc (by omega) _⟩
  case round =>
    clear R4
    obtain ⟨w5, rfl⟩ : ∃ w5 : World, w5 = wr := ⟨_, rfl⟩
    obtain ⟨k, hk, rfl, hrow, hbel⟩ := hrel
    have HR := Lib.hid hrow
    have HB := Lib.hid hbel
    by_cases hlt : k < 11
    · have cn := (RN4.out.below hbel (by omega)).cell (names_get hlt).1
      have cc := (RC4.out.below hbel (by omega)).cell (names_get hlt).2
      have c0 := (hbel.cell (p := ⟨bw, 0, none⟩) hbw).trans (HW.out 0 (.string ⟨w0.toArray⟩) rfl)
      have d0 := hrow.cell (j := 0) rfl
      have f0 := hrow.frozen (j := 0) (by show 0 < 8; omega)
      have hb1 : ((⟨w0.toArray⟩ : ByteArray).toList == (⟨(nameK k).toArray⟩ : ByteArray).toList) = decide (nameK k = w0) := by
        rw [ByteArray.toList_eq, ByteArray.toList_eq, Bool.eq_iff_iff, beq_iff_eq, decide_eq_true_eq]
        exact ⟨fun h => h.symm, fun h => h.symm⟩
      have HN : Hid (kAt w0 m (k + 1) = if nameK k = w0 ∧ (wordsN k < 0 ∨ wordsN k = (m : Int)) then (k : Int) else kAt w0 m k) := Lib.hid rfl
      clear hrow hbel
      generalize (⟨w0.toArray⟩ : ByteArray) = W0 at *
      generalize (⟨(nameK k).toArray⟩ : ByteArray) = X at *
      by_cases hn : nameK k = w0
      · rw [decide_eq_true hn] at hb1
        by_cases hc : wordsN k < 0 ∨ wordsN k = (m : Int)
        · have hnx := HN.out
          rw [if_pos ⟨hn, hc⟩] at hnx
          have HX := Lib.hid hnx
          generalize wordsN k = c at *
          have hR2 := fun v => HR.out.set_ (j := 0) (by show 0 < 8; omega) v
          have HR2 := Lib.hid hR2
          clear hnx HN hn hR2
          by_cases hneg : c < 0
          · clear hc
            go_wp2
            go_region
            go_wp2
            go_roundw
            case rel => exact ⟨k + 1, by omega, by go_num, by rw [HX.out]; exact (HR2.out _).drewN 1, below_drewN (HB.out.setCell (p := ⟨gd, 0, none⟩) (Nat.le_refl _) _) 1⟩
            case measure => simp [intOf]; omega
          · have hcm : c = (m : Int) := by omega
            subst hcm
            have e3 : ((m : Int) == (m : Int)) = true := by simp
            have e2 : decide ((m : Int) < 0) = false := decide_eq_false hneg
            clear hc
            go_wp2
            go_region
            go_wp2
            go_roundw
            case rel => exact ⟨k + 1, by omega, by go_num, by rw [HX.out]; exact (HR2.out _).drewN 1, below_drewN (HB.out.setCell (p := ⟨gd, 0, none⟩) (Nat.le_refl _) _) 1⟩
            case measure => simp [intOf]; omega
        · have hnx := HN.out
          rw [if_neg (fun h => hc h.2)] at hnx
          have HX := Lib.hid hnx
          generalize wordsN k = c at *
          have hneg : ¬ c < 0 := fun h => hc (.inl h)
          have e2 : decide (c < 0) = false := decide_eq_false hneg
          have e3 : (c == (m : Int)) = false := by rw [beq_eq_false_iff_ne]; exact fun h => hc (.inr h)
          clear hnx HN hn hc
          go_wp2
          go_region
          go_wp2
          go_roundw
          case rel => exact ⟨k + 1, by omega, by go_num, by rw [HX.out]; exact HR.out.drewN 1, below_drewN HB.out 1⟩
          case measure => simp [intOf]; omega
      · rw [decide_eq_false hn] at hb1
        have hnx := HN.out
        rw [if_neg (fun h => hn h.1)] at hnx
        have HX := Lib.hid hnx
        generalize wordsN k = c at *
        clear hnx HN hn
        go_wp2
        go_region
        go_wp2
        go_roundw
        case rel => exact ⟨k + 1, by omega, by go_num, by rw [HX.out]; exact HR.out.drewN 1, below_drewN HB.out 1⟩
        case measure => simp [intOf]; omega
    · have hK : kAt w0 m k = K0 := by have := HK1.out; rwa [show (11 : Nat) = k by omega] at this
      rw [hK] at HR
      have HKK := HKL
      have hgs : gd ≤ w5.heap.size := by rw [← hgd]; exact hbel.size
      clear hK HKL HK1 hrow hbel
      go_wp2
      go_loopw [9, 10, 11] (fun nV isV i wr => ∃ (j : Nat) (N : List Int), j + 1 ≤ m ∧ i = .int .i64 ((j : Int) + 1) ∧ NumsOk (ws.take j) N ∧ wr.ownsRow (gd + 1) 3 1 nV j (intsV N) ∧ wr.ownsRow (gd + 1) 4 1 isV j (boolsV ((ws.take j).map isNum)) ∧ RowAt wr gd 53 (cells8 (Deed.of K0) (.slice none 0 0) (.slice none 0 0) (.slice none 0 0)) ∧ Below gd w4 wr) (fun _ _ i _ => m - (intOf i).toNat)
      case atStart => exact ⟨0, [], hm0, rfl, trivial, World.ownsRow_nil _ _ _ _, World.ownsRow_nil _ _ _ _, HR.out, HB.out⟩
      case round =>
        clear HR HB hgs
        obtain ⟨w6, rfl⟩ : ∃ w6 : World, w6 = wr := ⟨_, rfl⟩
        obtain ⟨j, N, hj, rfl, hok, hnv, hiv, hrow, hbel⟩ := hrel
        have HR := Lib.hid hrow
        have HB := Lib.hid hbel
        have HNV := Lib.hid hnv
        have HIV := Lib.hid hiv
        have HOK := Lib.hid hok
        have hgs : gd + 1 ≤ w6.heap.size := hrow.lt
        by_cases hlt : j + 1 < m
        · obtain ⟨x, hx⟩ : ∃ x, ws[j]? = some x := ⟨_, List.getElem?_eq_getElem (by omega)⟩
          have c0 := (hbel.cell (p := ⟨bw, j + 1, none⟩) hbw).trans (HW.out (j + 1) (.string ⟨x.toArray⟩) (by simp [strsV, hx]))
          have hxl : (⟨x.toArray⟩ : ByteArray).size ≤ 1000000000 := by
            rw [size_mk]
            have := HLE.out x (List.mem_cons_of_mem _ (List.mem_of_getElem? hx))
            omega
          have NU : Hid (∀ w, Calls Try.prog 61 #[.string ⟨x.toArray⟩] w fun e w' => ∃ n, inI n ∧ e = .returned (.tuple #[.int .i64 n, .bool (isNum x)]) ∧ (∀ v, numP x = some v → n = v) ∧ Below w.heap.size w w') := Lib.hid (fun w => rnumber_any ⟨x.toArray⟩ hxl w)
          have HT : Hid (ws.take (j + 1) = ws.take j ++ [x]) := Lib.hid (by rw [List.take_add_one, hx]; rfl)
          have hjb : j ≤ 100000000 := by omega
          clear hrow hbel hnv hiv hok hx hxl
          generalize (⟨x.toArray⟩ : ByteArray) = X at *
          obtain ⟨b, hb⟩ : ∃ b, isNum x = b := ⟨_, rfl⟩
          rw [hb] at NU
          have Hb := Lib.hid hb
          clear hb
          go_wp2_with (first
            | (go_at_call 61; refine (NU.out _).mono ?_; rintro e w7 ⟨q, hq, rfl, hqv, hb7⟩; have hs7 := hb7.size; have O7 := Lib.hid (own_below HNV.out hb7); have I7 := Lib.hid (own_below HIV.out hb7); have R7 := Lib.hid (HR.out.below hb7 HR.out.lt); have B7 := Lib.hid (HB.out.trans (hb7.mono (by omega))); have HQ := Lib.hid hqv; clear hqv hb7 hq)
            | (at_builtin; refine wpList_app int_ty rfl _ _ rfl (gd + 1) _ _ _ rfl O7.out 1 1 [.int .i64 q] rfl (by rfl) (intsV_one [q]) (by omega) (by simp only [maxLen]; omega) (by omega) ?_; intro v8 w8 hown8 hgr8; have R8 := Lib.hid (R7.out.grown hgr8 (own_block O7.out) (by decide)); have I8 := Lib.hid (own_grown I7.out hgr8 (own_block O7.out) (by decide)); have B8 := Lib.hid (B7.out.grown hgr8 (by omega) fun k hk => Nat.le_of_succ_le (own_block O7.out k hk).choose_spec.2); have O8 := Lib.hid hown8; have hs8 := hgr8.size; clear hown8 hgr8)
            | (at_builtin; refine wpList_app bool_ty rfl _ _ rfl (gd + 1) _ _ _ rfl I8.out 1 1 [.bool b] rfl (by rfl) (boolsV_one [b]) (by omega) (by simp only [maxLen]; omega) (by omega) ?_; intro v9 w9 hown9 hgr9; have R9 := Lib.hid (R8.out.grown hgr9 (own_block I8.out) (by decide)); have O9 := Lib.hid (own_grown O8.out hgr9 (own_block I8.out) (by decide)); have B9 := Lib.hid (B8.out.grown hgr9 (by omega) fun k hk => Nat.le_of_succ_le (own_block I8.out k hk).choose_spec.2); have I9 := Lib.hid hown9; clear hown9 hgr9))
          go_roundw
          case rel =>
            refine ⟨j + 1, N ++ [q], hlt, by go_num, by rw [HT.out]; exact NumsOk.snoc HQ.out HOK.out, by rw [intsV_append]; exact O9.out, ?_, R9.out, B9.out⟩
            rw [HT.out, List.map_append, boolsV_append]
            simp only [List.map_cons, List.map_nil]
            rw [Hb.out]
            exact I9.out
          case measure => simp [intOf]; omega
        · have hwl : ws.length = j := by omega
          have hnv2 := hnv
          rw [List.take_of_length_le (by omega)] at hok hiv
          have HOK := Lib.hid hok
          have HIV := Lib.hid hiv
          clear hok hiv hnv hbel hlt hj
          have hjm : m = j + 1 := by omega
          have RZ6 := Lib.hid (RZ4.out.below HB.out (by omega))
          have BW6 := Lib.hid (BW4.out.trans (HB.out.mono (by omega)))
          have f1 := HR.out.frozen (j := 1) (by show 1 < 8; omega)
          have f2 := HR.out.frozen (j := 2) (by show 2 < 8; omega)
          have f3 := HR.out.frozen (j := 3) (by show 3 < 8; omega)
          have f4 := HR.out.frozen (j := 4) (by show 4 < 8; omega)
          have f5 := HR.out.frozen (j := 5) (by show 5 < 8; omega)
          have f6 := HR.out.frozen (j := 6) (by show 6 < 8; omega)
          have f7 := HR.out.frozen (j := 7) (by show 7 < 8; omega)
          clear RN4 RC4 RZ4 BW4 HML hmb hm0 hs hk hlt hwl
          subst hG
          obtain ⟨k', hk', hkk, hc, hu⟩ := HKK.out.resolve_left (fun h => absurd h.1 (by omega))
          obtain rfl : k' = 2 := by omega
          have hm2 : m = 3 := by simp [wordsN] at hc; omega
          clear hc HKK hk' hkk
          have e0 : w6.cell? ⟨gd, 0, none⟩ = some (.int .i64 2) := HR.out.cell (j := 0) rfl
          have e1 : w6.cell? ⟨gd, 1, none⟩ = some (.int .i64 0) := HR.out.cell (j := 1) rfl
          have e2 : w6.cell? ⟨gd, 2, none⟩ = some (.int .i64 0) := HR.out.cell (j := 2) rfl
          have e3 : w6.cell? ⟨gd, 3, none⟩ = some (.slice none 0 0) := HR.out.cell (j := 3) rfl
          have e4 : w6.cell? ⟨gd, 4, none⟩ = some (.slice none 0 0) := HR.out.cell (j := 4) rfl
          have e5 : w6.cell? ⟨gd, 5, none⟩ = some (.slice none 0 0) := HR.out.cell (j := 5) rfl
          have e6 : w6.cell? ⟨gd, 6, none⟩ = some (.int .i64 0) := HR.out.cell (j := 6) rfl
          have e7 : w6.cell? ⟨gd, 7, none⟩ = some (.int .i64 0) := HR.out.cell (j := 7) rfl
          obtain ⟨a, q, rfl⟩ : ∃ a a', ws = [a, a'] := len2 (by omega)
          obtain ⟨n, n2, rfl⟩ : ∃ n n2, N = [n, n2] := len2 (by have := HOK.out.length; simpa using this)
          have hna := numP_is HOK.out.1
          obtain ⟨bn, cn, rfl, hbn, hbn2, hcn⟩ := own_at hnv2 (by omega)
          obtain ⟨bi, ci, rfl, hbi, hbi2, hci⟩ := own_at HIV.out (by omega)
          have a0 := hcn 0 _ rfl
          have b0 := hci 0 _ rfl
          obtain ⟨b, hb⟩ : ∃ b, isNum a = b := ⟨_, rfl⟩
          rw [hb] at hna b0
          have c2 := (HB.out.cell (p := ⟨bw, 2, none⟩) hbw).trans (HW.out 2 (.string ⟨q.toArray⟩) rfl)
          obtain ⟨X, hX⟩ : ∃ X : ByteArray, (⟨q.toArray⟩ : ByteArray) = X := ⟨_, rfl⟩
          have hXl : X.data.toList = q := by rw [← hX]
          have hXs : X.size = q.length := by rw [← data_len, hXl]
          have hq8 : q.length ≤ 100000000 := HLE.out q (by simp)
          have UQ := fun w => refUnquote27_any X (by omega) w
          rw [hXl] at UQ
          rw [hX] at c2
          obtain ⟨bb, hbb⟩ : ∃ bb, (unquote27 q).1 = bb := ⟨_, rfl⟩
          obtain ⟨L, hL⟩ : ∃ L, (unquote27 q).2.1 = L := ⟨_, rfl⟩
          obtain ⟨E, hE⟩ : ∃ E, (unquote27 q).2.2 = E := ⟨_, rfl⟩
          rw [hbb, hL, hE] at UQ
          replace UQ := Lib.hid UQ
          obtain ⟨t1, ht1⟩ : ∃ t1, (E == 0) = t1 := ⟨_, rfl⟩
          obtain ⟨t2, ht2⟩ : ∃ t2, (L == (X.size : Int)) = t2 := ⟨_, rfl⟩
          have HUU : Hid (U = if (b && t1 && t2) = true then some { Deed.of 2 with conn := n, b := bb } else none) := Lib.hid (by
            have hu2 : U = match numP a, octW q with
              | some c, some b => some { Deed.of 2 with conn := c, b := b }
              | _, _ => none := hu
            have ho : octW q = if (t1 && t2) = true then some bb else none := by
              unfold octW
              rw [hbb, hL, hE, ← ht1, ← ht2, hXs]
              simp only [Bool.and_eq_true, beq_iff_eq]
            rw [hu2, hna, ho]; cases b <;> cases t1 <;> cases t2 <;> rfl)
          clear hu hna hb hX hXl hXs hbb hL hE hq8 hcn hci HIV HOK hnv2 HW HLE f2 f4 f5 f6 f7 e1 e2 e3 e4 e5 e6 e7 f1 f3
          go_upto_region 22 with (first
            | (go_at_call 31; refine (UQ.out _).mono ?_; rintro e w7 ⟨v, rfl, hv, hb7⟩; obtain ⟨A3, cA, rfl, _⟩ := own_slice hv; have R7 := Lib.hid (HR.out.below hb7 HR.out.lt); have RZ7 := Lib.hid (RZ6.out.below hb7 RZ6.out.lt); have BW7 := Lib.hid (BW6.out.trans (hb7.mono (by omega))); have V7 := Lib.hid (own_base hv (show gd + 1 ≤ w6.heap.size from hgs)); have a0' := (hb7.cell (p := ⟨bn, 0, none⟩) hbn2).trans a0; have b0' := (hb7.cell (p := ⟨bi, 0, none⟩) hbi2).trans b0; have c2' := (hb7.cell (p := ⟨bw, 2, none⟩) (by show bw < w6.heap.size; omega)).trans c2; have e0 : w7.cell? ⟨gd, 0, none⟩ = some (.int .i64 2) := R7.out.cell (j := 0) rfl; have e1 : w7.cell? ⟨gd, 1, none⟩ = some (.int .i64 0) := R7.out.cell (j := 1) rfl; have e2 : w7.cell? ⟨gd, 2, none⟩ = some (.int .i64 0) := R7.out.cell (j := 2) rfl; have e3 : w7.cell? ⟨gd, 3, none⟩ = some (.slice none 0 0) := R7.out.cell (j := 3) rfl; have e4 : w7.cell? ⟨gd, 4, none⟩ = some (.slice none 0 0) := R7.out.cell (j := 4) rfl; have e5 : w7.cell? ⟨gd, 5, none⟩ = some (.slice none 0 0) := R7.out.cell (j := 5) rfl; have e6 : w7.cell? ⟨gd, 6, none⟩ = some (.int .i64 0) := R7.out.cell (j := 6) rfl; have e7 : w7.cell? ⟨gd, 7, none⟩ = some (.int .i64 0) := R7.out.cell (j := 7) rfl; have f1 := R7.out.frozen (j := 1) (by show 1 < 8; omega); have f3 := R7.out.frozen (j := 3) (by show 3 < 8; omega); clear hv hb7))
          obtain ⟨w8, hw8⟩ : ∃ W, (w7.setCell ⟨gd, 1, none⟩ (.int .i64 n)).setCell ⟨gd, 3, none⟩ (.slice A3 bb.length cA) = W := ⟨_, rfl⟩
          rw [hw8]
          have Rw8 : Hid (RowAt w8 gd 53 (cells8 { Deed.of 2 with conn := n, b := bb } (.slice A3 bb.length cA) (.slice none 0 0) (.slice none 0 0))) := Lib.hid (by rw [← hw8]; exact ((R7.out.set_ (j := 1) (by show 1 < 8; omega) (.int .i64 n)).set_ (j := 3) (by show 3 < 8; omega) (.slice A3 bb.length cA)))
          have RZw8 : Hid (RowAt w8 g0 53 zero8) := Lib.hid (by rw [← hw8]; exact ((RZ7.out.far (p := ⟨gd, 1, none⟩) (by show g0 ≠ gd; omega) _).far (p := ⟨gd, 3, none⟩) (by show g0 ≠ gd; omega) _))
          have BWw8 : Hid (Below g0 w w8) := Lib.hid (by rw [← hw8]; exact ((BW7.out.setCell (p := ⟨gd, 1, none⟩) (by show g0 ≤ gd; omega) _).setCell (p := ⟨gd, 3, none⟩) (by show g0 ≤ gd; omega) _))
          have KKw8 : Hid (Kept3 w7 w8) := Lib.hid (by rw [← hw8]; exact Kept3.only (((Only.setCell gd 1 w7 (.int .i64 n))).trans (Only.setCell gd 3 (w7.setCell ⟨gd, 1, none⟩ (.int .i64 n)) (.slice A3 bb.length cA))) R7.out (by decide))
          have b0'w8 : w8.cell? ⟨bi, 0, none⟩ = some (.bool b) := by rw [← hw8]; exact (far_cell (p := ⟨gd, 3, none⟩) (far_cell (p := ⟨gd, 1, none⟩) b0' (by show bi ≠ gd; omega)) (by show bi ≠ gd; omega))
          have c2'w8 : w8.cell? ⟨bw, 2, none⟩ = some (.string X) := by rw [← hw8]; exact (far_cell (p := ⟨gd, 3, none⟩) (far_cell (p := ⟨gd, 1, none⟩) c2' (by show bw ≠ gd; omega)) (by show bw ≠ gd; omega))
          clear hw8 b0' c2'
          have O8 : Hid (Own3 w8 (gd + 1) { Deed.of 2 with conn := n, b := bb } (.slice A3 bb.length cA) (.slice none 0 0) (.slice none 0 0)) := Lib.hid ⟨own_keep V7.out fun k cur hh => KKw8.out k cur _ (.inl rfl) hh, World.ownsRow_nil _ _ _ _, World.ownsRow_nil _ _ _ _⟩
          clear KKw8 V7 R7 RZ7 BW7 UQ a0' e0 f1 f3 a0 b0 c2
          try clear e1
          try clear e2
          try clear e3
          try clear e4
          try clear e5
          try clear e6
          try clear e7
          have e0w8 : w8.cell? ⟨gd, 0, none⟩ = some (.int .i64 2) := Rw8.out.cell (j := 0) rfl
          have e1w8 : w8.cell? ⟨gd, 1, none⟩ = some (.int .i64 n) := Rw8.out.cell (j := 1) rfl
          have e2w8 : w8.cell? ⟨gd, 2, none⟩ = some (.int .i64 0) := Rw8.out.cell (j := 2) rfl
          have e3w8 : w8.cell? ⟨gd, 3, none⟩ = some (.slice A3 bb.length cA) := Rw8.out.cell (j := 3) rfl
          have e4w8 : w8.cell? ⟨gd, 4, none⟩ = some (.slice none 0 0) := Rw8.out.cell (j := 4) rfl
          have e5w8 : w8.cell? ⟨gd, 5, none⟩ = some (.slice none 0 0) := Rw8.out.cell (j := 5) rfl
          have e6w8 : w8.cell? ⟨gd, 6, none⟩ = some (.int .i64 0) := Rw8.out.cell (j := 6) rfl
          have e7w8 : w8.cell? ⟨gd, 7, none⟩ = some (.int .i64 0) := Rw8.out.cell (j := 7) rfl
          cases b with
          | false =>
            go_wp2_with (first
              | (refine wpList_store_row rfl 53 _ _ rfl g0 53 zero8 zero8 rfl rfl RZw8.out rfl (by kernel_rfl) zero_one ?_; intro w9 hr9 ho9; have q0 := hr9.cell (j := 0) rfl; have q1 := hr9.cell (j := 1) rfl; have q2 := hr9.cell (j := 2) rfl; have q3 := hr9.cell (j := 3) rfl; have q4 := hr9.cell (j := 4) rfl; have q5 := hr9.cell (j := 5) rfl; have q6 := hr9.cell (j := 6) rfl; have q7 := hr9.cell (j := 7) rfl)
              | (refine wpList_store_row rfl 53 _ _ rfl g0 53 (cells8 { Deed.of 2 with conn := n, b := bb } (.slice A3 bb.length cA) (.slice none 0 0) (.slice none 0 0)) zero8 rfl rfl RZw8.out rfl (by kernel_rfl) (O8.out).one ?_; intro w9 hr9 ho9; have q0 := hr9.cell (j := 0) rfl; have q1 := hr9.cell (j := 1) rfl; have q2 := hr9.cell (j := 2) rfl; have q3 := hr9.cell (j := 3) rfl; have q4 := hr9.cell (j := 4) rfl; have q5 := hr9.cell (j := 5) rfl; have q6 := hr9.cell (j := 6) rfl; have q7 := hr9.cell (j := 7) rfl))
            have HU := HUU.out
            exact bodyPost_ret (v := .tuple #[.agg zero8.toArray, .bool false]) (by simp [results, Try.results38, go_sem, zero8, cells8, Deed.of, q0, q1, q2, q3, q4, q5, q6, q7]) rfl ⟨by rw [HU]; exact ⟨_, _, _, rfl, Own3.of _ _ _⟩, ho9.below BWw8.out (Nat.le_refl _)⟩
          | true =>
            cases t1 with
            | false =>
              go_wp2_with (first
                | (refine wpList_store_row rfl 53 _ _ rfl g0 53 zero8 zero8 rfl rfl RZw8.out rfl (by kernel_rfl) zero_one ?_; intro w9 hr9 ho9; have q0 := hr9.cell (j := 0) rfl; have q1 := hr9.cell (j := 1) rfl; have q2 := hr9.cell (j := 2) rfl; have q3 := hr9.cell (j := 3) rfl; have q4 := hr9.cell (j := 4) rfl; have q5 := hr9.cell (j := 5) rfl; have q6 := hr9.cell (j := 6) rfl; have q7 := hr9.cell (j := 7) rfl)
                | (refine wpList_store_row rfl 53 _ _ rfl g0 53 (cells8 { Deed.of 2 with conn := n, b := bb } (.slice A3 bb.length cA) (.slice none 0 0) (.slice none 0 0)) zero8 rfl rfl RZw8.out rfl (by kernel_rfl) (O8.out).one ?_; intro w9 hr9 ho9; have q0 := hr9.cell (j := 0) rfl; have q1 := hr9.cell (j := 1) rfl; have q2 := hr9.cell (j := 2) rfl; have q3 := hr9.cell (j := 3) rfl; have q4 := hr9.cell (j := 4) rfl; have q5 := hr9.cell (j := 5) rfl; have q6 := hr9.cell (j := 6) rfl; have q7 := hr9.cell (j := 7) rfl))
              have HU := HUU.out
              exact bodyPost_ret (v := .tuple #[.agg zero8.toArray, .bool false]) (by simp [results, Try.results38, go_sem, zero8, cells8, Deed.of, q0, q1, q2, q3, q4, q5, q6, q7]) rfl ⟨by rw [HU]; exact ⟨_, _, _, rfl, Own3.of _ _ _⟩, ho9.below BWw8.out (Nat.le_refl _)⟩
            | true =>
              cases t2 with
              | false =>
                go_wp2_with (first
                  | (refine wpList_store_row rfl 53 _ _ rfl g0 53 zero8 zero8 rfl rfl RZw8.out rfl (by kernel_rfl) zero_one ?_; intro w9 hr9 ho9; have q0 := hr9.cell (j := 0) rfl; have q1 := hr9.cell (j := 1) rfl; have q2 := hr9.cell (j := 2) rfl; have q3 := hr9.cell (j := 3) rfl; have q4 := hr9.cell (j := 4) rfl; have q5 := hr9.cell (j := 5) rfl; have q6 := hr9.cell (j := 6) rfl; have q7 := hr9.cell (j := 7) rfl)
                  | (refine wpList_store_row rfl 53 _ _ rfl g0 53 (cells8 { Deed.of 2 with conn := n, b := bb } (.slice A3 bb.length cA) (.slice none 0 0) (.slice none 0 0)) zero8 rfl rfl RZw8.out rfl (by kernel_rfl) (O8.out).one ?_; intro w9 hr9 ho9; have q0 := hr9.cell (j := 0) rfl; have q1 := hr9.cell (j := 1) rfl; have q2 := hr9.cell (j := 2) rfl; have q3 := hr9.cell (j := 3) rfl; have q4 := hr9.cell (j := 4) rfl; have q5 := hr9.cell (j := 5) rfl; have q6 := hr9.cell (j := 6) rfl; have q7 := hr9.cell (j := 7) rfl))
                have HU := HUU.out
                exact bodyPost_ret (v := .tuple #[.agg zero8.toArray, .bool false]) (by simp [results, Try.results38, go_sem, zero8, cells8, Deed.of, q0, q1, q2, q3, q4, q5, q6, q7]) rfl ⟨by rw [HU]; exact ⟨_, _, _, rfl, Own3.of _ _ _⟩, ho9.below BWw8.out (Nat.le_refl _)⟩
              | true =>
                go_wp2_with (first
                  | (refine wpList_store_row rfl 53 _ _ rfl g0 53 zero8 zero8 rfl rfl RZw8.out rfl (by kernel_rfl) zero_one ?_; intro w9 hr9 ho9; have q0 := hr9.cell (j := 0) rfl; have q1 := hr9.cell (j := 1) rfl; have q2 := hr9.cell (j := 2) rfl; have q3 := hr9.cell (j := 3) rfl; have q4 := hr9.cell (j := 4) rfl; have q5 := hr9.cell (j := 5) rfl; have q6 := hr9.cell (j := 6) rfl; have q7 := hr9.cell (j := 7) rfl)
                  | (refine wpList_store_row rfl 53 _ _ rfl g0 53 (cells8 { Deed.of 2 with conn := n, b := bb } (.slice A3 bb.length cA) (.slice none 0 0) (.slice none 0 0)) zero8 rfl rfl RZw8.out rfl (by kernel_rfl) (O8.out).one ?_; intro w9 hr9 ho9; have q0 := hr9.cell (j := 0) rfl; have q1 := hr9.cell (j := 1) rfl; have q2 := hr9.cell (j := 2) rfl; have q3 := hr9.cell (j := 3) rfl; have q4 := hr9.cell (j := 4) rfl; have q5 := hr9.cell (j := 5) rfl; have q6 := hr9.cell (j := 6) rfl; have q7 := hr9.cell (j := 7) rfl))
                have HU := HUU.out
                exact bodyPost_ret (v := .tuple #[.agg (cells8 { Deed.of 2 with conn := n, b := bb } (.slice A3 bb.length cA) (.slice none 0 0) (.slice none 0 0)).toArray, .bool true]) (by simp [results, Try.results38, go_sem, cells8, Deed.of, q0, q1, q2, q3, q4, q5, q6, q7]) rfl ⟨by rw [HU]; exact ⟨_, _, _, rfl, ((O8.out).keep (Kept3.only ho9 RZw8.out (by decide))).base (by omega)⟩, ho9.below BWw8.out (Nat.le_refl _)⟩
end Go.Proofs.Ytmcioedmjcbfbaa

/- Walk of layer 27: the document's deed of a line, of some kinds. Condition: lines within 10^8 octets. -/
namespace Go.Proofs.Ytmcioedmjcbfbaa
open Go.RowKit IH
set_option maxRecDepth 100000
set_option maxHeartbeats 16000000 in
theorem refLine_f (K0 : Int) (hG : K0 = 7) (s : ByteArray) (hs : s.size ≤ 100000000) (hK0 : ∀ w0 ws, wordsL s.data.toList = w0 :: ws → kAt w0 (ws.length + 1) 11 = K0) (w : World) :
    Calls Try.prog 38 #[.string s] w fun e w' => rlineV (lineD s.data.toList) w.heap.size e w' ∧ Below w.heap.size w w' := by
  rw [← lineR_eq]
  obtain ⟨w0, ws, hW, hWj⟩ := words_join s.data.toList
  have hmb : ws.length ≤ 100000000 := by
    have h1 := congrArg List.length hWj
    rw [List.length_append, data_len] at h1
    have h2 := flat_len ws
    omega
  clear hWj
  have hle : ∀ x ∈ w0 :: ws, x.length ≤ 100000000 := fun x hx => by
    have := words_le (s := s.data.toList) (x := x) (by rw [hW]; exact hx)
    rw [data_len] at this
    omega
  have WD := Lib.hid (fun w => refWords_any s (by omega) w)
  have hU : lineR s.data.toList = lineW w0 ws := lineR_words hW
  have hK1 := hK0 w0 ws hW
  have hKL := kAt_line w0 ws
  rw [hK1] at hKL
  rw [← hU] at hKL
  obtain ⟨U, hUU⟩ : ∃ U, lineR s.data.toList = U := ⟨_, rfl⟩
  rw [hUU] at hKL ⊢
  change wordsL s.data.toList = w0 :: ws at hW
  rw [hW] at WD
  obtain ⟨m, hm⟩ : ∃ m, ws.length + 1 = m := ⟨_, rfl⟩
  rw [hm] at hKL hK1
  have HK1 := Lib.hid hK1
  clear hK0 hK1
  have hml : (w0 :: ws).length = m := by rw [← hm]; rfl
  rw [hml] at WD
  have HKL := Lib.hid hKL
  have HLE := Lib.hid hle
  have HML := Lib.hid hml
  have hm0 : 0 < m := by omega
  obtain ⟨g0, hg0⟩ : ∃ g0, w.heap.size = g0 := ⟨_, rfl⟩
  rw [hg0]
  obtain ⟨w1, hw1⟩ : ∃ w1, w.alloc (.cells zero8.toArray 53) = w1 := ⟨_, rfl⟩
  obtain ⟨w2, hw2⟩ : ∃ w2, w1.alloc (.cells NAMES27.toArray 9) = w2 := ⟨_, rfl⟩
  obtain ⟨w3, hw3⟩ : ∃ w3, w2.alloc (.cells COUNTS27.toArray 3) = w3 := ⟨_, rfl⟩
  have hz1 : w1.heap.size = g0 + 1 := by rw [← hw1]; simp [hg0]
  have hz2 : w2.heap.size = g0 + 2 := by rw [← hw2]; simp [hz1]
  have hz3 : w3.heap.size = g0 + 3 := by rw [← hw3]; simp [hz2]
  have B3 : Hid (Below g0 w w3) := Lib.hid (by rw [← hw3, ← hw2, ← hw1]; exact (((Below.refl _ _).alloc (by omega) _).alloc (by simp; omega) _).alloc (by simp; omega) _)
  have Z3 : Hid (RowAt w3 g0 53 zero8) := Lib.hid (by
    rw [← hw3, ← hw2, ← hw1, ← hg0]
    exact ((RowAt.new w 53 zero8).alloc _).alloc _)
  have N3 : Hid (RowAt w3 (g0 + 1) 9 NAMES27) := Lib.hid (by rw [← hw3, ← hw2, ← hz1]; exact (RowAt.new w1 9 NAMES27).alloc _)
  have C3 : Hid (RowAt w3 (g0 + 2) 3 COUNTS27) := Lib.hid (by rw [← hw3, ← hz2]; exact RowAt.new w2 3 COUNTS27)
  rw [show zero8.toArray = #[.int .i64 0, .int .i64 0, .int .i64 0, .slice none 0 0, .slice none 0 0, .slice none 0 0, .int .i64 0, .int .i64 0] from rfl] at hw1
  rw [names_lit] at hw2
  rw [counts_lit] at hw3
  clear hW hU hKL hUU hle hml
  go_enter Try.func38, Try.ntmps38
  go_wp2_with (go_at_call 60; refine (WD.out _).mono ?_; rintro e w4 ⟨v, rfl, hv, hb4⟩)
  obtain ⟨bw, cw, rfl, _, hbw, hcw⟩ := own_at hv (by omega)
  have HW : Hid (∀ j u, (strsV (w0 :: ws))[j]? = some u → w4.cell? ⟨bw, j, none⟩ = some u) := Lib.hid hcw
  have hz4 := hb4.size
  have BW4 : Hid (Below g0 w w4) := Lib.hid (B3.out.trans (hb4.mono (by omega)))
  have RZ4 := Lib.hid (Z3.out.below hb4 Z3.out.lt)
  have RN4 := Lib.hid (N3.out.below hb4 N3.out.lt)
  have RC4 := Lib.hid (C3.out.below hb4 C3.out.lt)
  obtain ⟨gd, hgd⟩ : ∃ gd, w4.heap.size = gd := ⟨_, rfl⟩
  have R4 : Hid (RowAt (w4.alloc (.cells #[.int .i64 (-1), .int .i64 0, .int .i64 0, .slice none 0 0, .slice none 0 0, .slice none 0 0, .int .i64 0, .int .i64 0] 53)) gd 53 (cells8 (Deed.of (kAt w0 m 0)) (.slice none 0 0) (.slice none 0 0) (.slice none 0 0))) := Lib.hid (by rw [← hgd]; exact RowAt.new w4 53 (cells8 (Deed.of (-1)) (.slice none 0 0) (.slice none 0 0) (.slice none 0 0)))
  have hgd0 : g0 + 3 ≤ gd := by omega
  rw [hgd] at hbw ⊢
  clear hv hcw hb4 hz4 B3 Z3 N3 C3 hw1 hw2 hw3 hz1 hz2 hz3 WD
  go_loopw [8] (fun i wr => ∃ k : Nat, k ≤ 11 ∧ i = .int .i64 k ∧ RowAt wr gd 53 (cells8 (Deed.of (kAt w0 m k)) (.slice none 0 0) (.slice none 0 0) (.slice none 0 0)) ∧ Below gd w4 wr) (fun i _ => 11 - (intOf i).toNat)
  case atStart => exact ⟨0, by omega, rfl, R4.out, (Below.refl _ _).alloc (by omega) _⟩
  case round =>
    clear R4
    obtain ⟨w5, rfl⟩ : ∃ w5 : World, w5 = wr := ⟨_, rfl⟩
    obtain ⟨k, hk, rfl, hrow, hbel⟩ := hrel
    have HR := Lib.hid hrow
    have HB := Lib.hid hbel
    by_cases hlt : k < 11
    · have cn := (RN4.out.below hbel (by omega)).cell (names_get hlt).1
      have cc := (RC4.out.below hbel (by omega)).cell (names_get hlt).2
      have c0 := (hbel.cell (p := ⟨bw, 0, none⟩) hbw).trans (HW.out 0 (.string ⟨w0.toArray⟩) rfl)
      have d0 := hrow.cell (j := 0) rfl
      have f0 := hrow.frozen (j := 0) (by show 0 < 8; omega)
      have hb1 : ((⟨w0.toArray⟩ : ByteArray).toList == (⟨(nameK k).toArray⟩ : ByteArray).toList) = decide (nameK k = w0) := by
        rw [ByteArray.toList_eq, ByteArray.toList_eq, Bool.eq_iff_iff, beq_iff_eq, decide_eq_true_eq]
        exact ⟨fun h => h.symm, fun h => h.symm⟩
      have HN : Hid (kAt w0 m (k + 1) = if nameK k = w0 ∧ (wordsN k < 0 ∨ wordsN k = (m : Int)) then (k : Int) else kAt w0 m k) := Lib.hid rfl
      clear hrow hbel
      generalize (⟨w0.toArray⟩ : ByteArray) = W0 at *
      generalize (⟨(nameK k).toArray⟩ : ByteArray) = X at *
      by_cases hn : nameK k = w0
      · rw [decide_eq_true hn] at hb1
        by_cases hc : wordsN k < 0 ∨ wordsN k = (m : Int)
        · have hnx := HN.out
          rw [if_pos ⟨hn, hc⟩] at hnx
          have HX := Lib.hid hnx
          generalize wordsN k = c at *
          have hR2 := fun v => HR.out.set_ (j := 0) (by show 0 < 8; omega) v
          have HR2 := Lib.hid hR2
          clear hnx HN hn hR2
          by_cases hneg : c < 0
          · clear hc
            go_wp2
            go_region
            go_wp2
            go_roundw
            case rel => exact ⟨k + 1, by omega, by go_num, by rw [HX.out]; exact (HR2.out _).drewN 1, below_drewN (HB.out.setCell (p := ⟨gd, 0, none⟩) (Nat.le_refl _) _) 1⟩
            case measure => simp [intOf]; omega
          · have hcm : c = (m : Int) := by omega
            subst hcm
            have e3 : ((m : Int) == (m : Int)) = true := by simp
            have e2 : decide ((m : Int) < 0) = false := decide_eq_false hneg
            clear hc
            go_wp2
            go_region
            go_wp2
            go_roundw
            case rel => exact ⟨k + 1, by omega, by go_num, by rw [HX.out]; exact (HR2.out _).drewN 1, below_drewN (HB.out.setCell (p := ⟨gd, 0, none⟩) (Nat.le_refl _) _) 1⟩
            case measure => simp [intOf]; omega
        · have hnx := HN.out
          rw [if_neg (fun h => hc h.2)] at hnx
          have HX := Lib.hid hnx
          generalize wordsN k = c at *
          have hneg : ¬ c < 0 := fun h => hc (.inl h)
          have e2 : decide (c < 0) = false := decide_eq_false hneg
          have e3 : (c == (m : Int)) = false := by rw [beq_eq_false_iff_ne]; exact fun h => hc (.inr h)
          clear hnx HN hn hc
          go_wp2
          go_region
          go_wp2
          go_roundw
          case rel => exact ⟨k + 1, by omega, by go_num, by rw [HX.out]; exact HR.out.drewN 1, below_drewN HB.out 1⟩
          case measure => simp [intOf]; omega
      · rw [decide_eq_false hn] at hb1
        have hnx := HN.out
        rw [if_neg (fun h => hn h.1)] at hnx
        have HX := Lib.hid hnx
        generalize wordsN k = c at *
        clear hnx HN hn
        go_wp2
        go_region
        go_wp2
        go_roundw
        case rel => exact ⟨k + 1, by omega, by go_num, by rw [HX.out]; exact HR.out.drewN 1, below_drewN HB.out 1⟩
        case measure => simp [intOf]; omega
    · have hK : kAt w0 m k = K0 := by have := HK1.out; rwa [show (11 : Nat) = k by omega] at this
      rw [hK] at HR
      have HKK := HKL
      have hgs : gd ≤ w5.heap.size := by rw [← hgd]; exact hbel.size
      clear hK HKL HK1 hrow hbel
      go_wp2
      go_loopw [9, 10, 11] (fun nV isV i wr => ∃ (j : Nat) (N : List Int), j + 1 ≤ m ∧ i = .int .i64 ((j : Int) + 1) ∧ NumsOk (ws.take j) N ∧ wr.ownsRow (gd + 1) 3 1 nV j (intsV N) ∧ wr.ownsRow (gd + 1) 4 1 isV j (boolsV ((ws.take j).map isNum)) ∧ RowAt wr gd 53 (cells8 (Deed.of K0) (.slice none 0 0) (.slice none 0 0) (.slice none 0 0)) ∧ Below gd w4 wr) (fun _ _ i _ => m - (intOf i).toNat)
      case atStart => exact ⟨0, [], hm0, rfl, trivial, World.ownsRow_nil _ _ _ _, World.ownsRow_nil _ _ _ _, HR.out, HB.out⟩
      case round =>
        clear HR HB hgs
        obtain ⟨w6, rfl⟩ : ∃ w6 : World, w6 = wr := ⟨_, rfl⟩
        obtain ⟨j, N, hj, rfl, hok, hnv, hiv, hrow, hbel⟩ := hrel
        have HR := Lib.hid hrow
        have HB := Lib.hid hbel
        have HNV := Lib.hid hnv
        have HIV := Lib.hid hiv
        have HOK := Lib.hid hok
        have hgs : gd + 1 ≤ w6.heap.size := hrow.lt
        by_cases hlt : j + 1 < m
        · obtain ⟨x, hx⟩ : ∃ x, ws[j]? = some x := ⟨_, List.getElem?_eq_getElem (by omega)⟩
          have c0 := (hbel.cell (p := ⟨bw, j + 1, none⟩) hbw).trans (HW.out (j + 1) (.string ⟨x.toArray⟩) (by simp [strsV, hx]))
          have hxl : (⟨x.toArray⟩ : ByteArray).size ≤ 1000000000 := by
            rw [size_mk]
            have := HLE.out x (List.mem_cons_of_mem _ (List.mem_of_getElem? hx))
            omega
          have NU : Hid (∀ w, Calls Try.prog 61 #[.string ⟨x.toArray⟩] w fun e w' => ∃ n, inI n ∧ e = .returned (.tuple #[.int .i64 n, .bool (isNum x)]) ∧ (∀ v, numP x = some v → n = v) ∧ Below w.heap.size w w') := Lib.hid (fun w => rnumber_any ⟨x.toArray⟩ hxl w)
          have HT : Hid (ws.take (j + 1) = ws.take j ++ [x]) := Lib.hid (by rw [List.take_add_one, hx]; rfl)
          have hjb : j ≤ 100000000 := by omega
          clear hrow hbel hnv hiv hok hx hxl
          generalize (⟨x.toArray⟩ : ByteArray) = X at *
          obtain ⟨b, hb⟩ : ∃ b, isNum x = b := ⟨_, rfl⟩
          rw [hb] at NU
          have Hb := Lib.hid hb
          clear hb
          go_wp2_with (first
            | (go_at_call 61; refine (NU.out _).mono ?_; rintro e w7 ⟨q, hq, rfl, hqv, hb7⟩; have hs7 := hb7.size; have O7 := Lib.hid (own_below HNV.out hb7); have I7 := Lib.hid (own_below HIV.out hb7); have R7 := Lib.hid (HR.out.below hb7 HR.out.lt); have B7 := Lib.hid (HB.out.trans (hb7.mono (by omega))); have HQ := Lib.hid hqv; clear hqv hb7 hq)
            | (at_builtin; refine wpList_app int_ty rfl _ _ rfl (gd + 1) _ _ _ rfl O7.out 1 1 [.int .i64 q] rfl (by rfl) (intsV_one [q]) (by omega) (by simp only [maxLen]; omega) (by omega) ?_; intro v8 w8 hown8 hgr8; have R8 := Lib.hid (R7.out.grown hgr8 (own_block O7.out) (by decide)); have I8 := Lib.hid (own_grown I7.out hgr8 (own_block O7.out) (by decide)); have B8 := Lib.hid (B7.out.grown hgr8 (by omega) fun k hk => Nat.le_of_succ_le (own_block O7.out k hk).choose_spec.2); have O8 := Lib.hid hown8; have hs8 := hgr8.size; clear hown8 hgr8)
            | (at_builtin; refine wpList_app bool_ty rfl _ _ rfl (gd + 1) _ _ _ rfl I8.out 1 1 [.bool b] rfl (by rfl) (boolsV_one [b]) (by omega) (by simp only [maxLen]; omega) (by omega) ?_; intro v9 w9 hown9 hgr9; have R9 := Lib.hid (R8.out.grown hgr9 (own_block I8.out) (by decide)); have O9 := Lib.hid (own_grown O8.out hgr9 (own_block I8.out) (by decide)); have B9 := Lib.hid (B8.out.grown hgr9 (by omega) fun k hk => Nat.le_of_succ_le (own_block I8.out k hk).choose_spec.2); have I9 := Lib.hid hown9; clear hown9 hgr9))
          go_roundw
          case rel =>
            refine ⟨j + 1, N ++ [q], hlt, by go_num, by rw [HT.out]; exact NumsOk.snoc HQ.out HOK.out, by rw [intsV_append]; exact O9.out, ?_, R9.out, B9.out⟩
            rw [HT.out, List.map_append, boolsV_append]
            simp only [List.map_cons, List.map_nil]
            rw [Hb.out]
            exact I9.out
          case measure => simp [intOf]; omega
        · have hwl : ws.length = j := by omega
          have hnv2 := hnv
          rw [List.take_of_length_le (by omega)] at hok hiv
          have HOK := Lib.hid hok
          have HIV := Lib.hid hiv
          clear hok hiv hnv hbel hlt hj
          have hjm : m = j + 1 := by omega
          have RZ6 := Lib.hid (RZ4.out.below HB.out (by omega))
          have BW6 := Lib.hid (BW4.out.trans (HB.out.mono (by omega)))
          have f1 := HR.out.frozen (j := 1) (by show 1 < 8; omega)
          have f2 := HR.out.frozen (j := 2) (by show 2 < 8; omega)
          have f3 := HR.out.frozen (j := 3) (by show 3 < 8; omega)
          have f4 := HR.out.frozen (j := 4) (by show 4 < 8; omega)
          have f5 := HR.out.frozen (j := 5) (by show 5 < 8; omega)
          have f6 := HR.out.frozen (j := 6) (by show 6 < 8; omega)
          have f7 := HR.out.frozen (j := 7) (by show 7 < 8; omega)
          have hjI : (j : Int) ≤ 1000000000 := by omega
          clear RN4 RC4 RZ4 BW4 HML hmb hm0 hs hk hlt hwl
          subst hG
          obtain ⟨k', hk', hkk, hc, hu⟩ := HKK.out.resolve_left (fun h => absurd h.1 (by omega))
          obtain rfl : k' = 7 := by omega
          clear hc HKK hk' hkk
          have e0 : w6.cell? ⟨gd, 0, none⟩ = some (.int .i64 7) := HR.out.cell (j := 0) rfl
          have e1 : w6.cell? ⟨gd, 1, none⟩ = some (.int .i64 0) := HR.out.cell (j := 1) rfl
          have e2 : w6.cell? ⟨gd, 2, none⟩ = some (.int .i64 0) := HR.out.cell (j := 2) rfl
          have e3 : w6.cell? ⟨gd, 3, none⟩ = some (.slice none 0 0) := HR.out.cell (j := 3) rfl
          have e4 : w6.cell? ⟨gd, 4, none⟩ = some (.slice none 0 0) := HR.out.cell (j := 4) rfl
          have e5 : w6.cell? ⟨gd, 5, none⟩ = some (.slice none 0 0) := HR.out.cell (j := 5) rfl
          have e6 : w6.cell? ⟨gd, 6, none⟩ = some (.int .i64 0) := HR.out.cell (j := 6) rfl
          have e7 : w6.cell? ⟨gd, 7, none⟩ = some (.int .i64 0) := HR.out.cell (j := 7) rfl
          have hnl : N.length = j := by rw [HOK.out.length]; omega
          have hu2 : U = (nums ws).map fun l => { Deed.of 7 with calls := l } := hu
          rw [nums_ok HOK.out] at hu2
          have HUU : Hid (U = if ws.all isNum = true then some { Deed.of 7 with calls := N } else none) := Lib.hid (by rw [hu2]; split <;> rfl)
          obtain ⟨An, cn, rfl, _⟩ := own_slice hnv2
          obtain ⟨Ai, ci, rfl, _⟩ := own_slice HIV.out
          have HNV := Lib.hid hnv2
          have HWL : Hid (ws.length = j) := Lib.hid (by omega)
          clear hu hu2 HOK hnv2
          go_upto_region 34 with fail
          obtain ⟨w8, hw8⟩ : ∃ W, w6.setCell ⟨gd, 4, none⟩ (.slice An j cn) = W := ⟨_, rfl⟩
          rw [hw8]
          have Rw8 : Hid (RowAt w8 gd 53 (cells8 { Deed.of 7 with calls := N } (.slice none 0 0) (.slice An j cn) (.slice none 0 0))) := Lib.hid (by rw [← hw8]; exact (HR.out.set_ (j := 4) (by show 4 < 8; omega) (.slice An j cn)))
          have RZw8 : Hid (RowAt w8 g0 53 zero8) := Lib.hid (by rw [← hw8]; exact (RZ6.out.far (p := ⟨gd, 4, none⟩) (by show g0 ≠ gd; omega) _))
          have BWw8 : Hid (Below g0 w w8) := Lib.hid (by rw [← hw8]; exact (BW6.out.setCell (p := ⟨gd, 4, none⟩) (by show g0 ≤ gd; omega) _))
          have KKw8 : Hid (Kept3 w6 w8) := Lib.hid (by rw [← hw8]; exact Kept3.only ((Only.setCell gd 4 w6 (.slice An j cn))) HR.out (by decide))
          clear hw8 
          have O8 : Hid (Own3 w8 (gd + 1) { Deed.of 7 with calls := N } (.slice none 0 0) (.slice An j cn) (.slice none 0 0)) := Lib.hid ⟨World.ownsRow_nil _ _ _ _, by
            show w8.ownsRow _ _ _ _ N.length _
            rw [hnl]
            exact own_keep HNV.out fun k cur hh => KKw8.out k cur _ (.inr (.inl rfl)) hh, World.ownsRow_nil _ _ _ _⟩
          have I8 : Hid (w8.ownsRow (gd + 1) 4 1 (.slice Ai j ci) j (boolsV (ws.map isNum))) := Lib.hid (own_keep HIV.out fun k cur hh => KKw8.out k cur _ (.inr (.inr rfl)) hh)
          clear KKw8 HNV HIV HR RZ6 BW6 HB e0 e1 e2 e3 e4 e5 e6 e7 f1 f2 f3 f4 f5 f6 f7 hnl
          have e0w8 : w8.cell? ⟨gd, 0, none⟩ = some (.int .i64 7) := Rw8.out.cell (j := 0) rfl
          have e1w8 : w8.cell? ⟨gd, 1, none⟩ = some (.int .i64 0) := Rw8.out.cell (j := 1) rfl
          have e2w8 : w8.cell? ⟨gd, 2, none⟩ = some (.int .i64 0) := Rw8.out.cell (j := 2) rfl
          have e3w8 : w8.cell? ⟨gd, 3, none⟩ = some (.slice none 0 0) := Rw8.out.cell (j := 3) rfl
          have e4w8 : w8.cell? ⟨gd, 4, none⟩ = some (.slice An j cn) := Rw8.out.cell (j := 4) rfl
          have e5w8 : w8.cell? ⟨gd, 5, none⟩ = some (.slice none 0 0) := Rw8.out.cell (j := 5) rfl
          have e6w8 : w8.cell? ⟨gd, 6, none⟩ = some (.int .i64 0) := Rw8.out.cell (j := 6) rfl
          have e7w8 : w8.cell? ⟨gd, 7, none⟩ = some (.int .i64 0) := Rw8.out.cell (j := 7) rfl
          go_wp2
          go_loop [14, 18] (fun ok i => ∃ k : Nat, k ≤ j ∧ ok = .bool ((ws.take k).all isNum) ∧ i = .int .i64 k) (fun _ i => j - (intOf i).toNat)
          case atStart => exact ⟨0, by omega, rfl, rfl⟩
          case round =>
            obtain ⟨k, hk, rfl, rfl⟩ := hrel
            by_cases hlt : k < j
            · obtain ⟨x, hx⟩ : ∃ x, ws[k]? = some x := ⟨_, List.getElem?_eq_getElem (by rw [HWL.out]; exact hlt)⟩
              obtain ⟨b, cap, he, hb1, hb2, hb3⟩ := own_at I8.out (by omega)
              injection he with e1
              subst e1
              have ck := hb3 k (.bool (isNum x)) (by simp [boolsV, hx])
              have HT : Hid ((ws.take (k + 1)).all isNum = ((ws.take k).all isNum && isNum x)) := Lib.hid (by rw [List.take_add_one, hx, List.all_append]; simp)
              generalize (ws.take k).all isNum = bk at *
              generalize isNum x = bx at *
              clear hx hb3
              cases bk with
              | false =>
                go_wp2
                go_round
                case rel => exact ⟨k + 1, by omega, by rw [HT.out]; rfl, by go_num⟩
                case measure => simp [intOf]; omega
              | true =>
                go_wp2
                go_round
                case rel => exact ⟨k + 1, by omega, by rw [HT.out]; rfl, by go_num⟩
                case measure => simp [intOf]; omega
            · obtain rfl : j = k := by omega
              have hta : ws.take j = ws := List.take_of_length_le (by rw [HWL.out]; exact Nat.le_refl _)
              rw [hta]
              generalize ws.all isNum = bk at *
              clear hta
              cases bk with
              | false =>
                go_wp2_with (first
                  | (refine wpList_store_row rfl 53 _ _ rfl g0 53 zero8 zero8 rfl rfl RZw8.out rfl (by kernel_rfl) zero_one ?_; intro w9 hr9 ho9; have q0 := hr9.cell (j := 0) rfl; have q1 := hr9.cell (j := 1) rfl; have q2 := hr9.cell (j := 2) rfl; have q3 := hr9.cell (j := 3) rfl; have q4 := hr9.cell (j := 4) rfl; have q5 := hr9.cell (j := 5) rfl; have q6 := hr9.cell (j := 6) rfl; have q7 := hr9.cell (j := 7) rfl)
                  | (refine wpList_store_row rfl 53 _ _ rfl g0 53 (cells8 { Deed.of 7 with calls := N } (.slice none 0 0) (.slice An j cn) (.slice none 0 0)) zero8 rfl rfl RZw8.out rfl (by kernel_rfl) (O8.out).one ?_; intro w9 hr9 ho9; have q0 := hr9.cell (j := 0) rfl; have q1 := hr9.cell (j := 1) rfl; have q2 := hr9.cell (j := 2) rfl; have q3 := hr9.cell (j := 3) rfl; have q4 := hr9.cell (j := 4) rfl; have q5 := hr9.cell (j := 5) rfl; have q6 := hr9.cell (j := 6) rfl; have q7 := hr9.cell (j := 7) rfl))
                have HU := HUU.out
                exact bodyPost_ret (v := .tuple #[.agg zero8.toArray, .bool false]) (by simp [results, Try.results38, go_sem, zero8, cells8, Deed.of, q0, q1, q2, q3, q4, q5, q6, q7]) rfl ⟨by rw [HU]; exact ⟨_, _, _, rfl, Own3.of _ _ _⟩, ho9.below BWw8.out (Nat.le_refl _)⟩
              | true =>
                go_wp2_with (first
                  | (refine wpList_store_row rfl 53 _ _ rfl g0 53 zero8 zero8 rfl rfl RZw8.out rfl (by kernel_rfl) zero_one ?_; intro w9 hr9 ho9; have q0 := hr9.cell (j := 0) rfl; have q1 := hr9.cell (j := 1) rfl; have q2 := hr9.cell (j := 2) rfl; have q3 := hr9.cell (j := 3) rfl; have q4 := hr9.cell (j := 4) rfl; have q5 := hr9.cell (j := 5) rfl; have q6 := hr9.cell (j := 6) rfl; have q7 := hr9.cell (j := 7) rfl)
                  | (refine wpList_store_row rfl 53 _ _ rfl g0 53 (cells8 { Deed.of 7 with calls := N } (.slice none 0 0) (.slice An j cn) (.slice none 0 0)) zero8 rfl rfl RZw8.out rfl (by kernel_rfl) (O8.out).one ?_; intro w9 hr9 ho9; have q0 := hr9.cell (j := 0) rfl; have q1 := hr9.cell (j := 1) rfl; have q2 := hr9.cell (j := 2) rfl; have q3 := hr9.cell (j := 3) rfl; have q4 := hr9.cell (j := 4) rfl; have q5 := hr9.cell (j := 5) rfl; have q6 := hr9.cell (j := 6) rfl; have q7 := hr9.cell (j := 7) rfl))
                have HU := HUU.out
                exact bodyPost_ret (v := .tuple #[.agg (cells8 { Deed.of 7 with calls := N } (.slice none 0 0) (.slice An j cn) (.slice none 0 0)).toArray, .bool true]) (by simp [results, Try.results38, go_sem, cells8, Deed.of, q0, q1, q2, q3, q4, q5, q6, q7]) rfl ⟨by rw [HU]; exact ⟨_, _, _, rfl, ((O8.out).keep (Kept3.only ho9 RZw8.out (by decide))).base (by omega)⟩, ho9.below BWw8.out (Nat.le_refl _)⟩
end Go.Proofs.Ytmcioedmjcbfbaa

/- Walk of layer 27: the document's deed of a line, of some kinds. Condition: lines within 10^8 octets. -/
namespace Go.Proofs.Ytmcioedmjcbfbaa
open Go.RowKit IH
set_option maxRecDepth 100000
set_option maxHeartbeats 16000000 in
theorem refLine_g (K0 : Int) (hG : K0 = 9) (s : ByteArray) (hs : s.size ≤ 100000000) (hK0 : ∀ w0 ws, wordsL s.data.toList = w0 :: ws → kAt w0 (ws.length + 1) 11 = K0) (w : World) :
    Calls Try.prog 38 #[.string s] w fun e w' => rlineV (lineD s.data.toList) w.heap.size e w' ∧ Below w.heap.size w w' := by
  rw [← lineR_eq]
  obtain ⟨w0, ws, hW, hWj⟩ := words_join s.data.toList
  have hmb : ws.length ≤ 100000000 := by
    have h1 := congrArg List.length hWj
    rw [List.length_append, data_len] at h1
    have h2 := flat_len ws
    omega
  clear hWj
  have hle : ∀ x ∈ w0 :: ws, x.length ≤ 100000000 := fun x hx => by
    have := words_le (s := s.data.toList) (x := x) (by rw [hW]; exact hx)
    rw [data_len] at this
    omega
  have WD := Lib.hid (fun w => refWords_any s (by omega) w)
  have hU : lineR s.data.toList = lineW w0 ws := lineR_words hW
  have hK1 := hK0 w0 ws hW
  have hKL := kAt_line w0 ws
  rw [hK1] at hKL
  rw [← hU] at hKL
  obtain ⟨U, hUU⟩ : ∃ U, lineR s.data.toList = U := ⟨_, rfl⟩
  rw [hUU] at hKL ⊢
  change wordsL s.data.toList = w0 :: ws at hW
  rw [hW] at WD
  obtain ⟨m, hm⟩ : ∃ m, ws.length + 1 = m := ⟨_, rfl⟩
  rw [hm] at hKL hK1
  have HK1 := Lib.hid hK1
  clear hK0 hK1
  have hml : (w0 :: ws).length = m := by rw [← hm]; rfl
  rw [hml] at WD
  have HKL := Lib.hid hKL
  have HLE := Lib.hid hle
  have HML := Lib.hid hml
  have hm0 : 0 < m := by omega
  obtain ⟨g0, hg0⟩ : ∃ g0, w.heap.size = g0 := ⟨_, rfl⟩
  rw [hg0]
  obtain ⟨w1, hw1⟩ : ∃ w1, w.alloc (.cells zero8.toArray 53) = w1 := ⟨_, rfl⟩
  obtain ⟨w2, hw2⟩ : ∃ w2, w1.alloc (.cells NAMES27.toArray 9) = w2 := ⟨_, rfl⟩
  obtain ⟨w3, hw3⟩ : ∃ w3, w2.alloc (.cells COUNTS27.toArray 3) = w3 := ⟨_, rfl⟩
  have hz1 : w1.heap.size = g0 + 1 := by rw [← hw1]; simp [hg0]
  have hz2 : w2.heap.size = g0 + 2 := by rw [← hw2]; simp [hz1]
  have hz3 : w3.heap.size = g0 + 3 := by rw [← hw3]; simp [hz2]
  have B3 : Hid (Below g0 w w3) := Lib.hid (by rw [← hw3, ← hw2, ← hw1]; exact (((Below.refl _ _).alloc (by omega) _).alloc (by simp; omega) _).alloc (by simp; omega) _)
  have Z3 : Hid (RowAt w3 g0 53 zero8) := Lib.hid (by
    rw [← hw3, ← hw2, ← hw1, ← hg0]
    exact ((RowAt.new w 53 zero8).alloc _).alloc _)
  have N3 : Hid (RowAt w3 (g0 + 1) 9 NAMES27) := Lib.hid (by rw [← hw3, ← hw2, ← hz1]; exact (RowAt.new w1 9 NAMES27).alloc _)
  have C3 : Hid (RowAt w3 (g0 + 2) 3 COUNTS27) := Lib.hid (by rw [← hw3, ← hz2]; exact RowAt.new w2 3 COUNTS27)
  rw [show zero8.toArray = #[.int .i64 0, .int .i64 0, .int .i64 0, .slice none 0 0, .slice none 0 0, .slice none 0 0, .int .i64 0, .int .i64 0] from rfl] at hw1
  rw [names_lit] at hw2
  rw [counts_lit] at hw3
  clear hW hU hKL hUU hle hml
  go_enter Try.func38, Try.ntmps38
  go_wp2_with (go_at_call 60; refine (WD.out _).mono ?_; rintro e w4 ⟨v, rfl, hv, hb4⟩)
  obtain ⟨bw, cw, rfl, _, hbw, hcw⟩ := own_at hv (by omega)
  have HW : Hid (∀ j u, (strsV (w0 :: ws))[j]? = some u → w4.cell? ⟨bw, j, none⟩ = some u) := Lib.hid hcw
  have hz4 := hb4.size
  have BW4 : Hid (Below g0 w w4) := Lib.hid (B3.out.trans (hb4.mono (by omega)))
  have RZ4 := Lib.hid (Z3.out.below hb4 Z3.out.lt)
  have RN4 := Lib.hid (N3.out.below hb4 N3.out.lt)
  have RC4 := Lib.hid (C3.out.below hb4 C3.out.lt)
  obtain ⟨gd, hgd⟩ : ∃ gd, w4.heap.size = gd := ⟨_, rfl⟩
  have R4 : Hid (RowAt (w4.alloc (.cells #[.int .i64 (-1), .int .i64 0, .int .i64 0, .slice none 0 0, .slice none 0 0, .slice none 0 0, .int .i64 0, .int .i64 0] 53)) gd 53 (cells8 (Deed.of (kAt w0 m 0)) (.slice none 0 0) (.slice none 0 0) (.slice none 0 0))) := Lib.hid (by rw [← hgd]; exact RowAt.new w4 53 (cells8 (Deed.of (-1)) (.slice none 0 0) (.slice none 0 0) (.slice none 0 0)))
  have hgd0 : g0 + 3 ≤ gd := by omega
  rw [hgd] at hbw ⊢
  clear hv hcw hb4 hz4 B3 Z3 N3 C3 hw1 hw2 hw3 hz1 hz2 hz3 WD
  go_loopw [8] (fun i wr => ∃ k : Nat, k ≤ 11 ∧ i = .int .i64 k ∧ RowAt wr gd 53 (cells8 (Deed.of (kAt w0 m k)) (.slice none 0 0) (.slice none 0 0) (.slice none 0 0)) ∧ Below gd w4 wr) (fun i _ => 11 - (intOf i).toNat)
  case atStart => exact ⟨0, by omega, rfl, R4.out, (Below.refl _ _).alloc (by omega) _⟩
  case round =>
    clear R4
    obtain ⟨w5, rfl⟩ : ∃ w5 : World, w5 = wr := ⟨_, rfl⟩
    obtain ⟨k, hk, rfl, hrow, hbel⟩ := hrel
    have HR := Lib.hid hrow
    have HB := Lib.hid hbel
    by_cases hlt : k < 11
    · have cn := (RN4.out.below hbel (by omega)).cell (names_get hlt).1
      have cc := (RC4.out.below hbel (by omega)).cell (names_get hlt).2
      have c0 := (hbel.cell (p := ⟨bw, 0, none⟩) hbw).trans (HW.out 0 (.string ⟨w0.toArray⟩) rfl)
      have d0 := hrow.cell (j := 0) rfl
      have f0 := hrow.frozen (j := 0) (by show 0 < 8; omega)
      have hb1 : ((⟨w0.toArray⟩ : ByteArray).toList == (⟨(nameK k).toArray⟩ : ByteArray).toList) = decide (nameK k = w0) := by
        rw [ByteArray.toList_eq, ByteArray.toList_eq, Bool.eq_iff_iff, beq_iff_eq, decide_eq_true_eq]
        exact ⟨fun h => h.symm, fun h => h.symm⟩
      have HN : Hid (kAt w0 m (k + 1) = if nameK k = w0 ∧ (wordsN k < 0 ∨ wordsN k = (m : Int)) then (k : Int) else kAt w0 m k) := Lib.hid rfl
      clear hrow hbel
      generalize (⟨w0.toArray⟩ : ByteArray) = W0 at *
      generalize (⟨(nameK k).toArray⟩ : ByteArray) = X at *
      by_cases hn : nameK k = w0
      · rw [decide_eq_true hn] at hb1
        by_cases hc : wordsN k < 0 ∨ wordsN k = (m : Int)
        · have hnx := HN.out
          rw [if_pos ⟨hn, hc⟩] at hnx
          have HX := Lib.hid hnx
          generalize wordsN k = c at *
          have hR2 := fun v => HR.out.set_ (j := 0) (by show 0 < 8; omega) v
          have HR2 := Lib.hid hR2
          clear hnx HN hn hR2
          by_cases hneg : c < 0
          · clear hc
            go_wp2
            go_region
            go_wp2
            go_roundw
            case rel => exact ⟨k + 1, by omega, by go_num, by rw [HX.out]; exact (HR2.out _).drewN 1, below_drewN (HB.out.setCell (p := ⟨gd, 0, none⟩) (Nat.le_refl _) _) 1⟩
            case measure => simp [intOf]; omega
          · have hcm : c = (m : Int) := by omega
            subst hcm
            have e3 : ((m : Int) == (m : Int)) = true := by simp
            have e2 : decide ((m : Int) < 0) = false := decide_eq_false hneg
            clear hc
            go_wp2
            go_region
            go_wp2
            go_roundw
            case rel => exact ⟨k + 1, by omega, by go_num, by rw [HX.out]; exact (HR2.out _).drewN 1, below_drewN (HB.out.setCell (p := ⟨gd, 0, none⟩) (Nat.le_refl _) _) 1⟩
            case measure => simp [intOf]; omega
        · have hnx := HN.out
          rw [if_neg (fun h => hc h.2)] at hnx
          have HX := Lib.hid hnx
          generalize wordsN k = c at *
          have hneg : ¬ c < 0 := fun h => hc (.inl h)
          have e2 : decide (c < 0) = false := decide_eq_false hneg
          have e3 : (c == (m : Int)) = false := by rw [beq_eq_false_iff_ne]; exact fun h => hc (.inr h)
          clear hnx HN hn hc
          go_wp2
          go_region
          go_wp2
          go_roundw
          case rel => exact ⟨k + 1, by omega, by go_num, by rw [HX.out]; exact HR.out.drewN 1, below_drewN HB.out 1⟩
          case measure => simp [intOf]; omega
      · rw [decide_eq_false hn] at hb1
        have hnx := HN.out
        rw [if_neg (fun h => hn h.1)] at hnx
        have HX := Lib.hid hnx
        generalize wordsN k = c at *
        clear hnx HN hn
        go_wp2
        go_region
        go_wp2
        go_roundw
        case rel => exact ⟨k + 1, by omega, by go_num, by rw [HX.out]; exact HR.out.drewN 1, below_drewN HB.out 1⟩
        case measure => simp [intOf]; omega
    · have hK : kAt w0 m k = K0 := by have := HK1.out; rwa [show (11 : Nat) = k by omega] at this
      rw [hK] at HR
      have HKK := HKL
      have hgs : gd ≤ w5.heap.size := by rw [← hgd]; exact hbel.size
      clear hK HKL HK1 hrow hbel
      go_wp2
      go_loopw [9, 10, 11] (fun nV isV i wr => ∃ (j : Nat) (N : List Int), j + 1 ≤ m ∧ i = .int .i64 ((j : Int) + 1) ∧ NumsOk (ws.take j) N ∧ wr.ownsRow (gd + 1) 3 1 nV j (intsV N) ∧ wr.ownsRow (gd + 1) 4 1 isV j (boolsV ((ws.take j).map isNum)) ∧ RowAt wr gd 53 (cells8 (Deed.of K0) (.slice none 0 0) (.slice none 0 0) (.slice none 0 0)) ∧ Below gd w4 wr) (fun _ _ i _ => m - (intOf i).toNat)
      case atStart => exact ⟨0, [], hm0, rfl, trivial, World.ownsRow_nil _ _ _ _, World.ownsRow_nil _ _ _ _, HR.out, HB.out⟩
      case round =>
        clear HR HB hgs
        obtain ⟨w6, rfl⟩ : ∃ w6 : World, w6 = wr := ⟨_, rfl⟩
        obtain ⟨j, N, hj, rfl, hok, hnv, hiv, hrow, hbel⟩ := hrel
        have HR := Lib.hid hrow
        have HB := Lib.hid hbel
        have HNV := Lib.hid hnv
        have HIV := Lib.hid hiv
        have HOK := Lib.hid hok
        have hgs : gd + 1 ≤ w6.heap.size := hrow.lt
        by_cases hlt : j + 1 < m
        · obtain ⟨x, hx⟩ : ∃ x, ws[j]? = some x := ⟨_, List.getElem?_eq_getElem (by omega)⟩
          have c0 := (hbel.cell (p := ⟨bw, j + 1, none⟩) hbw).trans (HW.out (j + 1) (.string ⟨x.toArray⟩) (by simp [strsV, hx]))
          have hxl : (⟨x.toArray⟩ : ByteArray).size ≤ 1000000000 := by
            rw [size_mk]
            have := HLE.out x (List.mem_cons_of_mem _ (List.mem_of_getElem? hx))
            omega
          have NU : Hid (∀ w, Calls Try.prog 61 #[.string ⟨x.toArray⟩] w fun e w' => ∃ n, inI n ∧ e = .returned (.tuple #[.int .i64 n, .bool (isNum x)]) ∧ (∀ v, numP x = some v → n = v) ∧ Below w.heap.size w w') := Lib.hid (fun w => rnumber_any ⟨x.toArray⟩ hxl w)
          have HT : Hid (ws.take (j + 1) = ws.take j ++ [x]) := Lib.hid (by rw [List.take_add_one, hx]; rfl)
          have hjb : j ≤ 100000000 := by omega
          clear hrow hbel hnv hiv hok hx hxl
          generalize (⟨x.toArray⟩ : ByteArray) = X at *
          obtain ⟨b, hb⟩ : ∃ b, isNum x = b := ⟨_, rfl⟩
          rw [hb] at NU
          have Hb := Lib.hid hb
          clear hb
          go_wp2_with (first
            | (go_at_call 61; refine (NU.out _).mono ?_; rintro e w7 ⟨q, hq, rfl, hqv, hb7⟩; have hs7 := hb7.size; have O7 := Lib.hid (own_below HNV.out hb7); have I7 := Lib.hid (own_below HIV.out hb7); have R7 := Lib.hid (HR.out.below hb7 HR.out.lt); have B7 := Lib.hid (HB.out.trans (hb7.mono (by omega))); have HQ := Lib.hid hqv; clear hqv hb7 hq)
            | (at_builtin; refine wpList_app int_ty rfl _ _ rfl (gd + 1) _ _ _ rfl O7.out 1 1 [.int .i64 q] rfl (by rfl) (intsV_one [q]) (by omega) (by simp only [maxLen]; omega) (by omega) ?_; intro v8 w8 hown8 hgr8; have R8 := Lib.hid (R7.out.grown hgr8 (own_block O7.out) (by decide)); have I8 := Lib.hid (own_grown I7.out hgr8 (own_block O7.out) (by decide)); have B8 := Lib.hid (B7.out.grown hgr8 (by omega) fun k hk => Nat.le_of_succ_le (own_block O7.out k hk).choose_spec.2); have O8 := Lib.hid hown8; have hs8 := hgr8.size; clear hown8 hgr8)
            | (at_builtin; refine wpList_app bool_ty rfl _ _ rfl (gd + 1) _ _ _ rfl I8.out 1 1 [.bool b] rfl (by rfl) (boolsV_one [b]) (by omega) (by simp only [maxLen]; omega) (by omega) ?_; intro v9 w9 hown9 hgr9; have R9 := Lib.hid (R8.out.grown hgr9 (own_block I8.out) (by decide)); have O9 := Lib.hid (own_grown O8.out hgr9 (own_block I8.out) (by decide)); have B9 := Lib.hid (B8.out.grown hgr9 (by omega) fun k hk => Nat.le_of_succ_le (own_block I8.out k hk).choose_spec.2); have I9 := Lib.hid hown9; clear hown9 hgr9))
          go_roundw
          case rel =>
            refine ⟨j + 1, N ++ [q], hlt, by go_num, by rw [HT.out]; exact NumsOk.snoc HQ.out HOK.out, by rw [intsV_append]; exact O9.out, ?_, R9.out, B9.out⟩
            rw [HT.out, List.map_append, boolsV_append]
            simp only [List.map_cons, List.map_nil]
            rw [Hb.out]
            exact I9.out
          case measure => simp [intOf]; omega
        · have hwl : ws.length = j := by omega
          have hnv2 := hnv
          rw [List.take_of_length_le (by omega)] at hok hiv
          have HOK := Lib.hid hok
          have HIV := Lib.hid hiv
          clear hok hiv hnv hbel hlt hj
          have hjm : m = j + 1 := by omega
          have RZ6 := Lib.hid (RZ4.out.below HB.out (by omega))
          have BW6 := Lib.hid (BW4.out.trans (HB.out.mono (by omega)))
          have f1 := HR.out.frozen (j := 1) (by show 1 < 8; omega)
          have f2 := HR.out.frozen (j := 2) (by show 2 < 8; omega)
          have f3 := HR.out.frozen (j := 3) (by show 3 < 8; omega)
          have f4 := HR.out.frozen (j := 4) (by show 4 < 8; omega)
          have f5 := HR.out.frozen (j := 5) (by show 5 < 8; omega)
          have f6 := HR.out.frozen (j := 6) (by show 6 < 8; omega)
          have f7 := HR.out.frozen (j := 7) (by show 7 < 8; omega)
          clear RN4 RC4 RZ4 BW4 HML hmb hm0 hs hk hlt hwl
          subst hG
          obtain ⟨k', hk', hkk, hc, hu⟩ := HKK.out.resolve_left (fun h => absurd h.1 (by omega))
          obtain rfl : k' = 9 := by omega
          have hm2 : m = 5 := by simp [wordsN] at hc; omega
          clear hc HKK hk' hkk
          have e0 : w6.cell? ⟨gd, 0, none⟩ = some (.int .i64 9) := HR.out.cell (j := 0) rfl
          have e1 : w6.cell? ⟨gd, 1, none⟩ = some (.int .i64 0) := HR.out.cell (j := 1) rfl
          have e2 : w6.cell? ⟨gd, 2, none⟩ = some (.int .i64 0) := HR.out.cell (j := 2) rfl
          have e3 : w6.cell? ⟨gd, 3, none⟩ = some (.slice none 0 0) := HR.out.cell (j := 3) rfl
          have e4 : w6.cell? ⟨gd, 4, none⟩ = some (.slice none 0 0) := HR.out.cell (j := 4) rfl
          have e5 : w6.cell? ⟨gd, 5, none⟩ = some (.slice none 0 0) := HR.out.cell (j := 5) rfl
          have e6 : w6.cell? ⟨gd, 6, none⟩ = some (.int .i64 0) := HR.out.cell (j := 6) rfl
          have e7 : w6.cell? ⟨gd, 7, none⟩ = some (.int .i64 0) := HR.out.cell (j := 7) rfl
          obtain ⟨a, q, t, p, rfl⟩ : ∃ a b c d, ws = [a, b, c, d] := len4 (by omega)
          obtain ⟨n, n2, n3, n4, rfl⟩ : ∃ a b c d, N = [a, b, c, d] := len4 (by have := HOK.out.length; simpa using this)
          have hna := numP_is HOK.out.1
          have hnt := numP_is HOK.out.2.2.1
          have hnp := numP_is HOK.out.2.2.2.1
          obtain ⟨bn, cn, rfl, hbn, hbn2, hcn⟩ := own_at hnv2 (by omega)
          obtain ⟨bi, ci, rfl, hbi, hbi2, hci⟩ := own_at HIV.out (by omega)
          have a0 := hcn 0 _ rfl
          have b0 := hci 0 _ rfl
          have a1 := hcn 1 _ rfl
          have b1 := hci 1 _ rfl
          have a2 := hcn 2 _ rfl
          have b2 := hci 2 _ rfl
          have a3 := hcn 3 _ rfl
          have b3 := hci 3 _ rfl
          obtain ⟨b, hb⟩ : ∃ b, isNum a = b := ⟨_, rfl⟩
          obtain ⟨bt, hbt⟩ : ∃ b, isNum t = b := ⟨_, rfl⟩
          obtain ⟨bp, hbp⟩ : ∃ b, isNum p = b := ⟨_, rfl⟩
          rw [hb] at hna b0
          rw [hbt] at hnt b2
          rw [hbp] at hnp b3
          have c2 := (HB.out.cell (p := ⟨bw, 2, none⟩) hbw).trans (HW.out 2 (.string ⟨q.toArray⟩) rfl)
          obtain ⟨X, hX⟩ : ∃ X : ByteArray, (⟨q.toArray⟩ : ByteArray) = X := ⟨_, rfl⟩
          have hXl : X.data.toList = q := by rw [← hX]
          have hXs : X.size = q.length := by rw [← data_len, hXl]
          have hq8 : q.length ≤ 100000000 := HLE.out q (by simp)
          have KP := fun w => refKeep_any X (by omega) w
          rw [hXl] at KP
          rw [hX] at c2
          obtain ⟨kl, hkl⟩ : ∃ kl, (keepP q).getD [] = kl := ⟨_, rfl⟩
          obtain ⟨bk, hbk⟩ : ∃ bk, (keepP q).isSome = bk := ⟨_, rfl⟩
          have hkp : keepP q = if bk = true then some kl else none := by
            rw [← hkl, ← hbk]
            cases keepP q <;> rfl
          rw [hkl, hbk] at KP
          replace KP := Lib.hid KP
          have HUU : Hid (U = if (((b && bk) && bt) && bp) = true then some { Deed.of 9 with n := n, keep := kl, torn := n3, part := n4 } else none) := Lib.hid (by
            have hu2 : U = match numP a, keepP q, numP t, numP p with
              | some n, some l, some t, some p => some { Deed.of 9 with n := n, keep := l, torn := t, part := p }
              | _, _, _, _ => none := hu
            rw [hu2, hna, hkp, hnt, hnp]; cases b <;> cases bk <;> cases bt <;> cases bp <;> rfl)
          clear hu hna hnt hnp hb hbt hbp hX hXl hXs hkl hbk hkp hq8 hcn hci HIV HOK hnv2 HW HLE f3 f4 f5 f6 f7 f1 a1 b1
          go_upto_region 31 with fail
          obtain ⟨w8, hw8⟩ : ∃ W, w6.setCell ⟨gd, 2, none⟩ (.int .i64 n) = W := ⟨_, rfl⟩
          rw [hw8]
          have Rw8 : Hid (RowAt w8 gd 53 (cells8 { Deed.of 9 with n := n } (.slice none 0 0) (.slice none 0 0) (.slice none 0 0))) := Lib.hid (by rw [← hw8]; exact (HR.out.set_ (j := 2) (by show 2 < 8; omega) (.int .i64 n)))
          have RZw8 : Hid (RowAt w8 g0 53 zero8) := Lib.hid (by rw [← hw8]; exact (RZ6.out.far (p := ⟨gd, 2, none⟩) (by show g0 ≠ gd; omega) _))
          have BWw8 : Hid (Below g0 w w8) := Lib.hid (by rw [← hw8]; exact (BW6.out.setCell (p := ⟨gd, 2, none⟩) (by show g0 ≤ gd; omega) _))
          have KKw8 : Hid (Kept3 w6 w8) := Lib.hid (by rw [← hw8]; exact Kept3.only ((Only.setCell gd 2 w6 (.int .i64 n))) HR.out (by decide))
          have a2w8 : w8.cell? ⟨bn, 2, none⟩ = some (.int .i64 n3) := by rw [← hw8]; exact (far_cell (p := ⟨gd, 2, none⟩) a2 (by show bn ≠ gd; omega))
          have a3w8 : w8.cell? ⟨bn, 3, none⟩ = some (.int .i64 n4) := by rw [← hw8]; exact (far_cell (p := ⟨gd, 2, none⟩) a3 (by show bn ≠ gd; omega))
          have b0w8 : w8.cell? ⟨bi, 0, none⟩ = some (.bool b) := by rw [← hw8]; exact (far_cell (p := ⟨gd, 2, none⟩) b0 (by show bi ≠ gd; omega))
          have b2w8 : w8.cell? ⟨bi, 2, none⟩ = some (.bool bt) := by rw [← hw8]; exact (far_cell (p := ⟨gd, 2, none⟩) b2 (by show bi ≠ gd; omega))
          have b3w8 : w8.cell? ⟨bi, 3, none⟩ = some (.bool bp) := by rw [← hw8]; exact (far_cell (p := ⟨gd, 2, none⟩) b3 (by show bi ≠ gd; omega))
          have c2w8 : w8.cell? ⟨bw, 2, none⟩ = some (.string X) := by rw [← hw8]; exact (far_cell (p := ⟨gd, 2, none⟩) c2 (by show bw ≠ gd; omega))
          clear hw8 a2 a3 b0 b2 b3 c2 e0 e1 e2 e3 e4 e5 e6 e7 f2 KKw8 HR RZ6 BW6 HB a0
          have e0w8 : w8.cell? ⟨gd, 0, none⟩ = some (.int .i64 9) := Rw8.out.cell (j := 0) rfl
          have e1w8 : w8.cell? ⟨gd, 1, none⟩ = some (.int .i64 0) := Rw8.out.cell (j := 1) rfl
          have e2w8 : w8.cell? ⟨gd, 2, none⟩ = some (.int .i64 n) := Rw8.out.cell (j := 2) rfl
          have e3w8 : w8.cell? ⟨gd, 3, none⟩ = some (.slice none 0 0) := Rw8.out.cell (j := 3) rfl
          have e4w8 : w8.cell? ⟨gd, 4, none⟩ = some (.slice none 0 0) := Rw8.out.cell (j := 4) rfl
          have e5w8 : w8.cell? ⟨gd, 5, none⟩ = some (.slice none 0 0) := Rw8.out.cell (j := 5) rfl
          have e6w8 : w8.cell? ⟨gd, 6, none⟩ = some (.int .i64 0) := Rw8.out.cell (j := 6) rfl
          have e7w8 : w8.cell? ⟨gd, 7, none⟩ = some (.int .i64 0) := Rw8.out.cell (j := 7) rfl
          have hgs8 : gd + 1 ≤ w8.heap.size := Rw8.out.lt
          have hbn8 : bn < w8.heap.size := lt_of_cell a2w8
          have hbi8 : bi < w8.heap.size := lt_of_cell b2w8
          go_upto_region 40 with (first
            | (go_at_call 62; refine (KP.out _).mono ?_; rintro e w7 ⟨v, rfl, hv, hb7⟩; obtain ⟨A7, c7, rfl, _⟩ := own_slice hv; have R7 := Lib.hid (Rw8.out.below hb7 Rw8.out.lt); have RZ7 := Lib.hid (RZw8.out.below hb7 RZw8.out.lt); have BW7 := Lib.hid (BWw8.out.trans (hb7.mono (by omega))); have V7 := Lib.hid (own_base hv (show gd + 1 ≤ w8.heap.size from hgs8)); have hs7 := hb7.size; have a2k := (hb7.cell (p := ⟨bn, 2, none⟩) (by show bn < w8.heap.size; omega)).trans a2w8; have a3k := (hb7.cell (p := ⟨bn, 3, none⟩) (by show bn < w8.heap.size; omega)).trans a3w8; have b0k := (hb7.cell (p := ⟨bi, 0, none⟩) (by show bi < w8.heap.size; omega)).trans b0w8; have b2k := (hb7.cell (p := ⟨bi, 2, none⟩) (by show bi < w8.heap.size; omega)).trans b2w8; have b3k := (hb7.cell (p := ⟨bi, 3, none⟩) (by show bi < w8.heap.size; omega)).trans b3w8; have e0k : w7.cell? ⟨gd, 0, none⟩ = some (.int .i64 9) := R7.out.cell (j := 0) rfl; have e1k : w7.cell? ⟨gd, 1, none⟩ = some (.int .i64 0) := R7.out.cell (j := 1) rfl; have e2k : w7.cell? ⟨gd, 2, none⟩ = some (.int .i64 n) := R7.out.cell (j := 2) rfl; have e3k : w7.cell? ⟨gd, 3, none⟩ = some (.slice none 0 0) := R7.out.cell (j := 3) rfl; have e4k : w7.cell? ⟨gd, 4, none⟩ = some (.slice none 0 0) := R7.out.cell (j := 4) rfl; have e5k : w7.cell? ⟨gd, 5, none⟩ = some (.slice none 0 0) := R7.out.cell (j := 5) rfl; have e6k : w7.cell? ⟨gd, 6, none⟩ = some (.int .i64 0) := R7.out.cell (j := 6) rfl; have e7k : w7.cell? ⟨gd, 7, none⟩ = some (.int .i64 0) := R7.out.cell (j := 7) rfl; clear hv hb7))
          have j2I : (2 : Int) < (j : Int) := by omega
          have j3I : (3 : Int) < (j : Int) := by omega
          have j0I : (0 : Int) < (j : Int) := by omega
          clear c2w8 KP e0w8 e1w8 e2w8 e3w8 e4w8 e5w8 e6w8 e7w8 a2w8 a3w8 b0w8 b2w8 b3w8
          go_cut [] from 201 to 210 (fun wx => RowAt wx gd 53 (cells8 { Deed.of 9 with n := n, keep := kl, torn := n3, part := n4 } (.slice none 0 0) (.slice none 0 0) (.slice A7 kl.length c7)) ∧ Only gd w7 wx)
          case first =>
            refine wp_region_tree0 (fun W => W.cell? ⟨bn, 2, none⟩ = some (.int .i64 n3) ∧ W.cell? ⟨bn, 3, none⟩ = some (.int .i64 n4)) (.take 0 (.take 1 (.take 2 (.take 3 (.take 4 (.take 5 (.take 6 (.take 7 (.take 8 (.node (.fork 9 (.done) (.stop)))))))))))) (by kernel_rfl) (by kernel_rfl) (of_decide_eq_true (by kernel_rfl)) rfl (by kernel_rfl) (⟨a2k, a3k⟩) ?_
            intro hH
            iterate 9
              refine tree_take (v := ?_) rfl (by rfl) ?_ ?_
              rotate_left
              · intro w2 hSw
                have s2 := hSw.1
                have s3 := hSw.2
                clear hSw
                go_simp
                try with_reducible rfl
              try simp only [Act.put, List.setIfInBounds_toArray, List.set_cons_zero, List.set_cons_succ]
            refine tree_node ?_
            refine tree_move rfl (by rfl) (fun K hK => ?_) ?_
            · refine wp_store_tail 51 _ _ rfl gd 5 53 [.int .i64 9, .int .i64 0, .int .i64 n, .slice none 0 0, .slice none 0 0] [.slice A7 kl.length c7, .int .i64 n3, .int .i64 n4] [.slice none 0 0, .int .i64 0, .int .i64 0] rfl rfl rfl R7.out rfl (by kernel_rfl) ?_ ?_
              · exact three_one rfl rfl rfl
              intro w9 hr9 ho9
              refine hK.out _ _ (⟨(World.cell?_of_block (ho9.block bn (by omega))).trans a2k, (World.cell?_of_block (ho9.block bn (by omega))).trans a3k⟩) ?_
              clear hK hH K
              intro hH
              try simp only [Act.put]
              refine tree_done ?_
              go_wp2_with fail
              go_meet
              exact ⟨hr9, ⟨ho9.os, ho9.tape, ho9.output, ho9.size, ho9.block⟩⟩
            exact tree_stop
          case rest =>
            obtain ⟨w9, rfl⟩ : ∃ w9 : World, w9 = wc := ⟨_, rfl⟩
            obtain ⟨hrz, hoz⟩ := hcut
            have Rz := Lib.hid hrz
            have RZz : Hid (RowAt w9 g0 53 zero8) := Lib.hid (RZ7.out.only hoz (by omega))
            have BWz : Hid (Below g0 w w9) := Lib.hid (hoz.below BW7.out (by omega))
            have KKz : Kept3 w7 w9 := Kept3.only hoz R7.out (by decide)
            have Oz : Hid (Own3 w9 (gd + 1) { Deed.of 9 with n := n, keep := kl, torn := n3, part := n4 } (.slice none 0 0) (.slice none 0 0) (.slice A7 kl.length c7)) := Lib.hid ⟨World.ownsRow_nil _ _ _ _, World.ownsRow_nil _ _ _ _, own_keep V7.out fun k cur hh => KKz k cur _ (.inr (.inr rfl)) hh⟩
            have b0z := (World.cell?_of_block (hoz.block bi (by omega))).trans b0k
            have b2z := (World.cell?_of_block (hoz.block bi (by omega))).trans b2k
            have b3z := (World.cell?_of_block (hoz.block bi (by omega))).trans b3k
            clear hrz hoz KKz V7 R7 RZ7 BW7 e0k e1k e2k e3k e4k e5k e6k e7k a2k a3k b0k b2k b3k Rw8 RZw8 BWw8
            have e0w9 : w9.cell? ⟨gd, 0, none⟩ = some (.int .i64 9) := Rz.out.cell (j := 0) rfl
            have e1w9 : w9.cell? ⟨gd, 1, none⟩ = some (.int .i64 0) := Rz.out.cell (j := 1) rfl
            have e2w9 : w9.cell? ⟨gd, 2, none⟩ = some (.int .i64 n) := Rz.out.cell (j := 2) rfl
            have e3w9 : w9.cell? ⟨gd, 3, none⟩ = some (.slice none 0 0) := Rz.out.cell (j := 3) rfl
            have e4w9 : w9.cell? ⟨gd, 4, none⟩ = some (.slice none 0 0) := Rz.out.cell (j := 4) rfl
            have e5w9 : w9.cell? ⟨gd, 5, none⟩ = some (.slice A7 kl.length c7) := Rz.out.cell (j := 5) rfl
            have e6w9 : w9.cell? ⟨gd, 6, none⟩ = some (.int .i64 n3) := Rz.out.cell (j := 6) rfl
            have e7w9 : w9.cell? ⟨gd, 7, none⟩ = some (.int .i64 n4) := Rz.out.cell (j := 7) rfl

            cases b with
            | false =>
              go_wp2_with (first
                | (refine wpList_store_row rfl 53 _ _ rfl g0 53 zero8 zero8 rfl rfl RZz.out rfl (by kernel_rfl) zero_one ?_; intro w9 hr9 ho9; have q0 := hr9.cell (j := 0) rfl; have q1 := hr9.cell (j := 1) rfl; have q2 := hr9.cell (j := 2) rfl; have q3 := hr9.cell (j := 3) rfl; have q4 := hr9.cell (j := 4) rfl; have q5 := hr9.cell (j := 5) rfl; have q6 := hr9.cell (j := 6) rfl; have q7 := hr9.cell (j := 7) rfl)
                | (refine wpList_store_row rfl 53 _ _ rfl g0 53 (cells8 { Deed.of 9 with n := n, keep := kl, torn := n3, part := n4 } (.slice none 0 0) (.slice none 0 0) (.slice A7 kl.length c7)) zero8 rfl rfl RZz.out rfl (by kernel_rfl) (Oz.out).one ?_; intro w9 hr9 ho9; have q0 := hr9.cell (j := 0) rfl; have q1 := hr9.cell (j := 1) rfl; have q2 := hr9.cell (j := 2) rfl; have q3 := hr9.cell (j := 3) rfl; have q4 := hr9.cell (j := 4) rfl; have q5 := hr9.cell (j := 5) rfl; have q6 := hr9.cell (j := 6) rfl; have q7 := hr9.cell (j := 7) rfl))
              have HU := HUU.out
              exact bodyPost_ret (v := .tuple #[.agg zero8.toArray, .bool false]) (by simp [results, Try.results38, go_sem, zero8, cells8, Deed.of, q0, q1, q2, q3, q4, q5, q6, q7]) rfl ⟨by rw [HU]; exact ⟨_, _, _, rfl, Own3.of _ _ _⟩, ho9.below BWz.out (Nat.le_refl _)⟩
            | true =>
              cases bk with
              | false =>
                go_wp2_with (first
                  | (refine wpList_store_row rfl 53 _ _ rfl g0 53 zero8 zero8 rfl rfl RZz.out rfl (by kernel_rfl) zero_one ?_; intro w9 hr9 ho9; have q0 := hr9.cell (j := 0) rfl; have q1 := hr9.cell (j := 1) rfl; have q2 := hr9.cell (j := 2) rfl; have q3 := hr9.cell (j := 3) rfl; have q4 := hr9.cell (j := 4) rfl; have q5 := hr9.cell (j := 5) rfl; have q6 := hr9.cell (j := 6) rfl; have q7 := hr9.cell (j := 7) rfl)
                  | (refine wpList_store_row rfl 53 _ _ rfl g0 53 (cells8 { Deed.of 9 with n := n, keep := kl, torn := n3, part := n4 } (.slice none 0 0) (.slice none 0 0) (.slice A7 kl.length c7)) zero8 rfl rfl RZz.out rfl (by kernel_rfl) (Oz.out).one ?_; intro w9 hr9 ho9; have q0 := hr9.cell (j := 0) rfl; have q1 := hr9.cell (j := 1) rfl; have q2 := hr9.cell (j := 2) rfl; have q3 := hr9.cell (j := 3) rfl; have q4 := hr9.cell (j := 4) rfl; have q5 := hr9.cell (j := 5) rfl; have q6 := hr9.cell (j := 6) rfl; have q7 := hr9.cell (j := 7) rfl))
                have HU := HUU.out
                exact bodyPost_ret (v := .tuple #[.agg zero8.toArray, .bool false]) (by simp [results, Try.results38, go_sem, zero8, cells8, Deed.of, q0, q1, q2, q3, q4, q5, q6, q7]) rfl ⟨by rw [HU]; exact ⟨_, _, _, rfl, Own3.of _ _ _⟩, ho9.below BWz.out (Nat.le_refl _)⟩
              | true =>
                cases bt with
                | false =>
                  go_wp2_with (first
                    | (refine wpList_store_row rfl 53 _ _ rfl g0 53 zero8 zero8 rfl rfl RZz.out rfl (by kernel_rfl) zero_one ?_; intro w9 hr9 ho9; have q0 := hr9.cell (j := 0) rfl; have q1 := hr9.cell (j := 1) rfl; have q2 := hr9.cell (j := 2) rfl; have q3 := hr9.cell (j := 3) rfl; have q4 := hr9.cell (j := 4) rfl; have q5 := hr9.cell (j := 5) rfl; have q6 := hr9.cell (j := 6) rfl; have q7 := hr9.cell (j := 7) rfl)
                    | (refine wpList_store_row rfl 53 _ _ rfl g0 53 (cells8 { Deed.of 9 with n := n, keep := kl, torn := n3, part := n4 } (.slice none 0 0) (.slice none 0 0) (.slice A7 kl.length c7)) zero8 rfl rfl RZz.out rfl (by kernel_rfl) (Oz.out).one ?_; intro w9 hr9 ho9; have q0 := hr9.cell (j := 0) rfl; have q1 := hr9.cell (j := 1) rfl; have q2 := hr9.cell (j := 2) rfl; have q3 := hr9.cell (j := 3) rfl; have q4 := hr9.cell (j := 4) rfl; have q5 := hr9.cell (j := 5) rfl; have q6 := hr9.cell (j := 6) rfl; have q7 := hr9.cell (j := 7) rfl))
                  have HU := HUU.out
                  exact bodyPost_ret (v := .tuple #[.agg zero8.toArray, .bool false]) (by simp [results, Try.results38, go_sem, zero8, cells8, Deed.of, q0, q1, q2, q3, q4, q5, q6, q7]) rfl ⟨by rw [HU]; exact ⟨_, _, _, rfl, Own3.of _ _ _⟩, ho9.below BWz.out (Nat.le_refl _)⟩
                | true =>
                  cases bp with
                  | false =>
                    go_wp2_with (first
                      | (refine wpList_store_row rfl 53 _ _ rfl g0 53 zero8 zero8 rfl rfl RZz.out rfl (by kernel_rfl) zero_one ?_; intro w9 hr9 ho9; have q0 := hr9.cell (j := 0) rfl; have q1 := hr9.cell (j := 1) rfl; have q2 := hr9.cell (j := 2) rfl; have q3 := hr9.cell (j := 3) rfl; have q4 := hr9.cell (j := 4) rfl; have q5 := hr9.cell (j := 5) rfl; have q6 := hr9.cell (j := 6) rfl; have q7 := hr9.cell (j := 7) rfl)
                      | (refine wpList_store_row rfl 53 _ _ rfl g0 53 (cells8 { Deed.of 9 with n := n, keep := kl, torn := n3, part := n4 } (.slice none 0 0) (.slice none 0 0) (.slice A7 kl.length c7)) zero8 rfl rfl RZz.out rfl (by kernel_rfl) (Oz.out).one ?_; intro w9 hr9 ho9; have q0 := hr9.cell (j := 0) rfl; have q1 := hr9.cell (j := 1) rfl; have q2 := hr9.cell (j := 2) rfl; have q3 := hr9.cell (j := 3) rfl; have q4 := hr9.cell (j := 4) rfl; have q5 := hr9.cell (j := 5) rfl; have q6 := hr9.cell (j := 6) rfl; have q7 := hr9.cell (j := 7) rfl))
                    have HU := HUU.out
                    exact bodyPost_ret (v := .tuple #[.agg zero8.toArray, .bool false]) (by simp [results, Try.results38, go_sem, zero8, cells8, Deed.of, q0, q1, q2, q3, q4, q5, q6, q7]) rfl ⟨by rw [HU]; exact ⟨_, _, _, rfl, Own3.of _ _ _⟩, ho9.below BWz.out (Nat.le_refl _)⟩
                  | true =>
                    go_wp2_with (first
                      | (refine wpList_store_row rfl 53 _ _ rfl g0 53 zero8 zero8 rfl rfl RZz.out rfl (by kernel_rfl) zero_one ?_; intro w9 hr9 ho9; have q0 := hr9.cell (j := 0) rfl; have q1 := hr9.cell (j := 1) rfl; have q2 := hr9.cell (j := 2) rfl; have q3 := hr9.cell (j := 3) rfl; have q4 := hr9.cell (j := 4) rfl; have q5 := hr9.cell (j := 5) rfl; have q6 := hr9.cell (j := 6) rfl; have q7 := hr9.cell (j := 7) rfl)
                      | (refine wpList_store_row rfl 53 _ _ rfl g0 53 (cells8 { Deed.of 9 with n := n, keep := kl, torn := n3, part := n4 } (.slice none 0 0) (.slice none 0 0) (.slice A7 kl.length c7)) zero8 rfl rfl RZz.out rfl (by kernel_rfl) (Oz.out).one ?_; intro w9 hr9 ho9; have q0 := hr9.cell (j := 0) rfl; have q1 := hr9.cell (j := 1) rfl; have q2 := hr9.cell (j := 2) rfl; have q3 := hr9.cell (j := 3) rfl; have q4 := hr9.cell (j := 4) rfl; have q5 := hr9.cell (j := 5) rfl; have q6 := hr9.cell (j := 6) rfl; have q7 := hr9.cell (j := 7) rfl))
                    have HU := HUU.out
                    exact bodyPost_ret (v := .tuple #[.agg (cells8 { Deed.of 9 with n := n, keep := kl, torn := n3, part := n4 } (.slice none 0 0) (.slice none 0 0) (.slice A7 kl.length c7)).toArray, .bool true]) (by simp [results, Try.results38, go_sem, cells8, Deed.of, q0, q1, q2, q3, q4, q5, q6, q7]) rfl ⟨by rw [HU]; exact ⟨_, _, _, rfl, ((Oz.out).keep (Kept3.only ho9 RZz.out (by decide))).base (by omega)⟩, ho9.below BWz.out (Nat.le_refl _)⟩
end Go.Proofs.Ytmcioedmjcbfbaa
