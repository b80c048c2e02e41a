/- The law OctetJoins, walked: it returns true. No condition. -/
import Derived.Test.YtclgkkencpkjpaaGreatDoorLaw01d
import Derived.Test.YtclgkkencpkjpaaGreatDoorOct12
namespace IH
theorem front_step (L : List (List UInt8)) (k t : Nat) (x : List UInt8) (h : L[k]? = some x) (hk : k < t) : frontQ (L.take (min (k + 1) t)) = frontQ (L.take (min k t)) ++ (pieceQ x ++ [32, 44, 9, 44, 32]) := by
  rw [Nat.min_eq_left (by omega : k + 1 ≤ t), Nat.min_eq_left (by omega : k ≤ t), List.take_add_one, h]
  simp [frontQ]
theorem front_stay (L : List (List UInt8)) (k t : Nat) (hk : ¬ k < t) : L.take (min (k + 1) t) = L.take (min k t) := by
  rw [Nat.min_eq_right (by omega : t ≤ k + 1), Nat.min_eq_right (by omega : t ≤ k)]
theorem behind_step (L : List (List UInt8)) (k t : Nat) (x : List UInt8) (h : L[k]? = some x) (hk : ¬ k < t) : behindQ ((L.take (k + 1)).drop t) = behindQ ((L.take k).drop t) ++ ([44, 32] ++ pieceQ x) := by
  have hl : k < L.length := by
    rcases Nat.lt_or_ge k L.length with h1 | h1
    · exact h1
    · rw [List.getElem?_eq_none h1] at h; cases h
  rw [List.take_add_one, h, List.drop_append_of_le_length (by rw [List.length_take]; omega)]
  simp [behindQ]
theorem behind_stay (L : List (List UInt8)) (k t : Nat) (hk : k < t) : (L.take (k + 1)).drop t = (L.take k).drop t := by
  rw [List.drop_eq_nil_of_le (by rw [List.length_take]; omega), List.drop_eq_nil_of_le (by rw [List.length_take]; omega)]
theorem piece_len (x : List UInt8) (h : x.length ≤ 300) : (pieceQ x).length ≤ 902 := by
  unfold pieceQ
  split
  · omega
  · unfold quoteL
    rw [List.length_cons, List.length_append, escs_count, List.length_singleton]
    have h1 : x.count 92 ≤ x.length := List.count_le_length
    have h2 : x.count 34 ≤ x.length := List.count_le_length
    omega
end IH
namespace Go.Proofs.YtclgkkencpkjpaaGreatDoor
open Go.RowKit IH
set_option maxRecDepth 100000
theorem wf64j {n : Int} (h : (Lit.int .i64 n).wf = true) : -9223372036854775808 ≤ n ∧ n ≤ 9223372036854775807 := by
  have e : IntKind.i64.min = -9223372036854775808 := by decide
  simp [Lit.wf] at h
  rw [e] at h
  exact h
theorem strs_one (s : ByteArray) : strsV [s.data.toList] = [.string s] := by
  show [Value.string ⟨s.data.toList.toArray⟩] = _
  rw [show (⟨s.data.toList.toArray⟩ : ByteArray) = s from by rw [Array.toArray_toList]]
theorem strs_two (s r : ByteArray) : strsV [s.data.toList, r.data.toList] = [.string s, .string r] := by
  show [Value.string ⟨s.data.toList.toArray⟩, Value.string ⟨r.data.toList.toArray⟩] = _
  rw [show (⟨s.data.toList.toArray⟩ : ByteArray) = s from by rw [Array.toArray_toList], show (⟨r.data.toList.toArray⟩ : ByteArray) = r from by rw [Array.toArray_toList]]
set_option maxHeartbeats 8000000 in
theorem joins_walk (w : World) (A : Option Addr) (n c : Nat) (L : List (List UInt8)) (hin : SliceIn w w.heap.size 1 A n c (strsV L)) (a : Int) (wa : (Lit.int .i64 a).wf = true) :
    Calls Tryz.prog 4 #[.slice A n c, .int .i64 a] w fun e w' => e = .returned (.bool true) ∧ Below w.heap.size w w' := by
  have hn : n ≤ 9223372036854775807 := by have := hin.2.1; have := hin.2.2.1; simp only [maxLen] at this; omega
  have ha := wf64j wa
  have hL : L.length = n := by have := hin.1; rw [strsV_length] at this; omega
  have HL := Lib.hid hL; clear hL
  by_cases h20 : 20 < n
  · go_enter Tryz.func4, Tryz.ntmps4
    go_wp2_with fail
    refine (awake01_any _).mono ?_
    rintro e w1 ⟨rfl, hb1⟩
    go_wp2_with fail
    refine (awake01_any _).mono ?_
    rintro e w2 ⟨rfl, hb2⟩
    go_wp2
    go_ret
    exact ⟨rfl, hb1.trans (hb2.mono hb1.size)⟩
  · have hn1 : (((n : Int) + 1) == 0) = false := by rw [beq_eq_false_iff_ne]; omega
    have hn2 : ¬ ((n : Int) + 1 = 0) := by omega
    have ta : -((n : Int) + 1) < Int.tmod a ((n : Int) + 1) := Int.lt_tmod_of_pos a (by omega)
    have tb : Int.tmod a ((n : Int) + 1) < (n : Int) + 1 := Int.tmod_lt_of_pos a (by omega)
    have HSW := Lib.hid hin
    clear hin
    go_enter Tryz.func4, Tryz.ntmps4
    go_wp2_with fail
    refine (awake01_any _).mono ?_
    rintro e w1 ⟨rfl, hb1⟩
    have HS0 := Lib.hid HSW.out
    clear HSW
    go_upto_region 5 with fail
    obtain ⟨t, ht⟩ : ∃ t : Nat, (Int.tmod a ((n : Int) + 1) + (n : Int) + 1) % ((n : Int) + 1) = (t : Int) := ⟨((Int.tmod a ((n : Int) + 1) + (n : Int) + 1) % ((n : Int) + 1)).toNat, by have := Int.emod_nonneg (Int.tmod a ((n : Int) + 1) + (n : Int) + 1) hn2; omega⟩
    rw [ht]
    have htn : t ≤ n := by have := Int.emod_lt_of_pos (Int.tmod a ((n : Int) + 1) + (n : Int) + 1) (show (0 : Int) < (n : Int) + 1 by omega); omega
    clear ht hn1 hn2 ta tb ha wa
    have HB1 := Lib.hid hb1
    clear hb1
    go_wp2_with fail
    go_loopw [5, 6, 8, 9] (fun s5 s6 s8 s9 wr => ∃ (k : Nat) (F B : ByteArray), k ≤ n ∧ s9 = .int .i64 k ∧ s5 = .string F ∧ s6 = .string B ∧ F.data.toList = frontQ (L.take (min k t)) ∧ B.data.toList = behindQ ((L.take k).drop t) ∧ F.size ≤ 1000 * k ∧ B.size ≤ 1000 * k ∧ wr.ownsRow w.heap.size 9 1 s8 k (strsV ((L.take k).map pieceQ)) ∧ Below w.heap.size w wr) (fun _ _ _ s9 _ => n - (intOf s9).toNat)
    case atStart => exact ⟨0, ⟨#[]⟩, ⟨#[]⟩, Nat.zero_le _, rfl, rfl, rfl, by rw [Nat.zero_min]; rfl, by rw [List.take_zero, List.drop_nil]; rfl, Nat.zero_le _, Nat.zero_le _, World.ownsRow_nil _ _ _ _, HB1.out⟩
    case round =>
      have HSW := Lib.hid (fun W (hb : Below w.heap.size w W) => hb)
      obtain ⟨wq, hwq⟩ : ∃ x : World, x = wr := ⟨_, rfl⟩
      subst hwq
      obtain ⟨k, F, B, hk, rfl, rfl, rfl, hF, hB, hFs, hBs, hown, hbel⟩ := hrel
      have HO := Lib.hid hown
      have HB := Lib.hid hbel
      have HSQ := Lib.hid (HS0.out.below hbel)
      clear hown hbel HSW
      by_cases hlt : k < n
      · obtain ⟨x, hx⟩ : ∃ x, L[k]? = some x := ⟨_, List.getElem?_eq_getElem (by have := HL.out; omega)⟩
        obtain ⟨b, off, rfl, hb, hc⟩ := HSQ.out.2.2.2 (by omega)
        have hcell : wq.cell? ⟨b, off + k, none⟩ = some (.string ⟨x.toArray⟩) := hc k _ (by rw [strsV_get, hx]; rfl)
        obtain ⟨X, hX⟩ : ∃ X : ByteArray, (⟨x.toArray⟩ : ByteArray) = X := ⟨_, rfl⟩
        rw [hX] at hcell
        have hXd : X.data.toList = x := by rw [← hX]
        have HX := Lib.hid hx
        have HD := Lib.hid (And.intro hF hB)
        clear hx hc hF hB hX
        by_cases hlen : X.size ≤ 300
        · have hxl : x.length ≤ 300 := by rw [← hXd, data_len]; exact hlen
          have HPl := Lib.hid (piece_len x hxl)
          have CT := Lib.hid (refToken_any X (by omega))
          have CQ := Lib.hid (quote_any X (by omega))
          rw [hXd] at CT CQ
          have HXd := Lib.hid hXd
          clear hxl hXd
          have ON : Hid (∀ (P : ByteArray), P.data.toList = pieceQ x → ∀ (v : Value) (W : World), W.ownsRow w.heap.size 9 1 v (k + 1) (strsV ((L.take k).map pieceQ) ++ [.string P]) → W.ownsRow w.heap.size 9 1 v (k + 1) (strsV ((L.take (k + 1)).map pieceQ))) := Lib.hid (fun P hP v W h => by
            rw [List.take_add_one, HX.out]
            rw [show Option.toList (some x) = [x] from rfl, List.map_append, strsV_append, show [x].map pieceQ = [P.data.toList] from by rw [hP]; rfl, strs_one]
            exact h)
          cases htk : token x with
          | true =>
            rw [htk] at CT
            have hpx : X.data.toList = pieceQ x := by unfold pieceQ; rw [if_pos htk]; exact HXd.out
            replace ON := Lib.hid (ON.out X hpx)
            have HP := Lib.hid hpx
            have HPs : Hid (X.size ≤ 902) := Lib.hid (by omega)
            clear htk hpx CQ HXd
            by_cases hkt : k < t
            · have HK := Lib.hid hkt
              go_wp2_with (first
                | (go_at_call 18; (with_reducible refine (CT.out _).mono ?_); rintro e w2 ⟨rfl, hb2⟩; replace HO := Lib.hid (own_below HO.out hb2); replace HB := Lib.hid (below_step HB.out hb2); clear hb2)
                | (at_builtin; refine wpList_app str_ty rfl _ _ rfl w.heap.size _ k _ rfl HO.out 1 1 [.string X] rfl (by rfl) (one1 _ rfl) (by omega) (by simp only [maxLen]; omega) HB.out.size ?_; intro v2 w3 hown hgr; have O3 := Lib.hid hown; have B3 := Lib.hid (HB.out.grown hgr HB.out.size (fun q hq => (HO.out.lt q hq).1)); clear hown hgr))
              go_roundw
              case rel =>
                refine ⟨k + 1, F ++ (X ++ ⟨#[32, 44, 9, 44, 32]⟩), B, by omega, by go_num, rfl, rfl, ?_, ?_, ?_, by omega, ?_, B3.out⟩
                · rw [front_step L k t x HX.out HK.out, append_data, append_data, HD.out.1, HP.out]
                · rw [behind_stay L k t HK.out]; exact HD.out.2
                · have := HPs.out; rw [ByteArray.size_append, ByteArray.size_append, show (⟨#[32, 44, 9, 44, 32]⟩ : ByteArray).size = 5 from rfl]; omega
                · exact ON.out v2 w3 O3.out
              case measure => simp [intOf]; omega
            · have HK := Lib.hid hkt
              go_wp2_with (first
                | (go_at_call 18; (with_reducible refine (CT.out _).mono ?_); rintro e w2 ⟨rfl, hb2⟩; replace HO := Lib.hid (own_below HO.out hb2); replace HB := Lib.hid (below_step HB.out hb2); clear hb2)
                | (at_builtin; refine wpList_app str_ty rfl _ _ rfl w.heap.size _ k _ rfl HO.out 1 1 [.string X] rfl (by rfl) (one1 _ rfl) (by omega) (by simp only [maxLen]; omega) HB.out.size ?_; intro v2 w3 hown hgr; have O3 := Lib.hid hown; have B3 := Lib.hid (HB.out.grown hgr HB.out.size (fun q hq => (HO.out.lt q hq).1)); clear hown hgr))
              go_roundw
              case rel =>
                refine ⟨k + 1, F, B ++ (⟨#[44, 32]⟩ ++ X), by omega, by go_num, rfl, rfl, ?_, ?_, by omega, ?_, ?_, B3.out⟩
                · rw [front_stay L k t HK.out]; exact HD.out.1
                · rw [behind_step L k t x HX.out HK.out, append_data, append_data, HD.out.2, HP.out]
                · have := HPs.out; rw [ByteArray.size_append, ByteArray.size_append, show (⟨#[44, 32]⟩ : ByteArray).size = 2 from rfl]; omega
                · exact ON.out v2 w3 O3.out
              case measure => simp [intOf]; omega
          | false =>
            rw [htk] at CT
            cases hpl : allOf isPlain x with
            | false =>
              have hq : quoteR x = ([], 10) := by unfold quoteR; rw [if_neg (by rw [hpl]; simp)]
              rw [hq, show quoV (([] : List UInt8), (10 : Int)) = .tuple #[.string ⟨#[]⟩, .int .i64 10] from rfl] at CQ
              clear htk hpl hq HXd
              go_wp2_with (first
                | (go_at_call 18; (with_reducible refine (CT.out _).mono ?_); rintro e w2 ⟨rfl, hb2⟩; replace HO := Lib.hid (own_below HO.out hb2); replace HB := Lib.hid (below_step HB.out hb2); clear hb2)
                | (go_at_call 14; (with_reducible refine (CQ.out _).mono ?_); rintro e w2 ⟨rfl, hb2⟩; replace HB := Lib.hid (below_step HB.out hb2); clear hb2))
              go_ret
              exact ⟨rfl, HB.out⟩
            | true =>
              have hq : quoteR x = (quoteL x, 0) := by unfold quoteR; rw [if_pos hpl]
              obtain ⟨P, hP⟩ : ∃ P : ByteArray, (⟨(quoteL x).toArray⟩ : ByteArray) = P := ⟨_, rfl⟩
              rw [hq, show quoV (quoteL x, (0 : Int)) = .tuple #[.string P, .int .i64 0] from by unfold quoV; rw [hP]] at CQ
              have hpx : P.data.toList = pieceQ x := by unfold pieceQ; rw [if_neg (by rw [htk]; simp), ← hP]
              replace ON := Lib.hid (ON.out P hpx)
              have HP := Lib.hid hpx
              have HPs : Hid (P.size ≤ 902) := Lib.hid (by rw [← data_len, hpx]; exact HPl.out)
              clear htk hpl hq HXd hpx hP
              have hps := HPs.out
              by_cases hkt : k < t
              · have HK := Lib.hid hkt
                go_wp2_with (first
                  | (go_at_call 18; (with_reducible refine (CT.out _).mono ?_); rintro e w2 ⟨rfl, hb2⟩; replace HO := Lib.hid (own_below HO.out hb2); replace HB := Lib.hid (below_step HB.out hb2); clear hb2)
                  | (go_at_call 14; (with_reducible refine (CQ.out _).mono ?_); rintro e w2 ⟨rfl, hb2⟩; replace HO := Lib.hid (own_below HO.out hb2); replace HB := Lib.hid (below_step HB.out hb2); clear hb2)
                  | (at_builtin; refine wpList_app str_ty rfl _ _ rfl w.heap.size _ k _ rfl HO.out 1 1 [.string P] rfl (by rfl) (one1 _ rfl) (by omega) (by simp only [maxLen]; omega) HB.out.size ?_; intro v2 w3 hown hgr; have O3 := Lib.hid hown; have B3 := Lib.hid (HB.out.grown hgr HB.out.size (fun q hq => (HO.out.lt q hq).1)); clear hown hgr))
                go_roundw
                case rel =>
                  refine ⟨k + 1, F ++ (P ++ ⟨#[32, 44, 9, 44, 32]⟩), B, by omega, by go_num, rfl, rfl, ?_, ?_, ?_, by omega, ?_, B3.out⟩
                  · rw [front_step L k t x HX.out HK.out, append_data, append_data, HD.out.1, HP.out]
                  · rw [behind_stay L k t HK.out]; exact HD.out.2
                  · have := HPs.out; rw [ByteArray.size_append, ByteArray.size_append, show (⟨#[32, 44, 9, 44, 32]⟩ : ByteArray).size = 5 from rfl]; omega
                  · exact ON.out v2 w3 O3.out
                case measure => simp [intOf]; omega
              · have HK := Lib.hid hkt
                go_wp2_with (first
                  | (go_at_call 18; (with_reducible refine (CT.out _).mono ?_); rintro e w2 ⟨rfl, hb2⟩; replace HO := Lib.hid (own_below HO.out hb2); replace HB := Lib.hid (below_step HB.out hb2); clear hb2)
                  | (go_at_call 14; (with_reducible refine (CQ.out _).mono ?_); rintro e w2 ⟨rfl, hb2⟩; replace HO := Lib.hid (own_below HO.out hb2); replace HB := Lib.hid (below_step HB.out hb2); clear hb2)
                  | (at_builtin; refine wpList_app str_ty rfl _ _ rfl w.heap.size _ k _ rfl HO.out 1 1 [.string P] rfl (by rfl) (one1 _ rfl) (by omega) (by simp only [maxLen]; omega) HB.out.size ?_; intro v2 w3 hown hgr; have O3 := Lib.hid hown; have B3 := Lib.hid (HB.out.grown hgr HB.out.size (fun q hq => (HO.out.lt q hq).1)); clear hown hgr))
                go_roundw
                case rel =>
                  refine ⟨k + 1, F, B ++ (⟨#[44, 32]⟩ ++ P), by omega, by go_num, rfl, rfl, ?_, ?_, by omega, ?_, ?_, B3.out⟩
                  · rw [front_stay L k t HK.out]; exact HD.out.1
                  · rw [behind_step L k t x HX.out HK.out, append_data, append_data, HD.out.2, HP.out]
                  · have := HPs.out; rw [ByteArray.size_append, ByteArray.size_append, show (⟨#[44, 32]⟩ : ByteArray).size = 2 from rfl]; omega
                  · exact ON.out v2 w3 O3.out
                case measure => simp [intOf]; omega
        · have hlen' : 300 < X.size := by omega
          clear hlen
          go_wp2_with fail
          go_ret
          exact ⟨rfl, HB.out⟩
      · obtain rfl : k = n := by omega
        have e : L.take k = L := List.take_of_length_le (by rw [HL.out]; omega)
        rw [e] at hB HO
        have e2 : min k t = t := Nat.min_eq_right htn
        rw [e2] at hF
        have hj1 := joins_one (L.take t) (L.drop t)
        have hj2 := joins_two (L.take t) (L.drop t)
        rw [List.take_append_drop, ← hF, ← hB] at hj1 hj2
        obtain ⟨Z, hZ⟩ : ∃ Z, L.map pieceQ = Z := ⟨_, rfl⟩
        rw [hZ] at hj1 hj2 HO
        have J1 := Lib.hid hj1
        have J2 := Lib.hid hj2
        clear hj1 hj2 hZ e e2 hF hB
        have ht1 : total [F.data.toList ++ B.data.toList] ≤ 1000000000 := by unfold total; simp; omega
        have ht2 : total [F.data.toList, B.data.toList] ≤ 1000000000 := by unfold total; simp; omega
        go_wp2_with fail
        have hs1 : SliceIn (wq.alloc (.cells #[.string (F ++ B)] 9)) (wq.alloc (.cells #[.string (F ++ B)] 9)).heap.size 1 (some ⟨wq.heap.size, 0, none⟩) 1 1 (strsV [F.data.toList ++ B.data.toList]) := by
          have h := (RowAt.new wq 9 [.string (F ++ B)]).slice (size := 1) (n := 1) (c := 1) rfl (Nat.le_refl _) (by simp [maxLen])
          rw [← append_data, strs_one]
          exact h
        have hba : Below wq.heap.size wq (wq.alloc (.cells #[.string (F ++ B)] 9)) := (Below.refl _ _).alloc (Nat.le_refl _) _
        refine (Split_any _ _ _ _ _ hs1 ht1).mono ?_
        rw [J1.out]
        rintro e w2 ⟨v, rfl, hown1, hb2⟩
        obtain ⟨A1, c1, rfl, hin1⟩ := own_slice hown1
        have hbw := hba.trans (hb2.mono (by simp))
        have HO2 := Lib.hid (own_below HO.out hbw)
        have HB2 := Lib.hid (below_step HB.out hbw)
        obtain ⟨A3, c3, rfl, hin3⟩ := own_slice HO2.out
        have S := Lib.hid (Same_any _ _ _ _ _ _ _ _ _ _ _ hin1 hin3)
        rw [sameL_self] at S
        clear hown1 hin1 hin3 hs1 hba hb2 hbw HO HB
        go_wp2_with (go_at_call 19; refine S.out.mono ?_; rintro e w4 ⟨rfl, hq⟩; have HQ := Lib.hid hq; clear hq)
        have HO4 : Hid (w4.ownsRow w.heap.size 9 1 (.slice A3 k c3) k (strsV Z)) := Lib.hid (by obtain ⟨nq, rfl⟩ := HQ.out; exact own_below HO2.out (below_drewN (Below.refl _ _) nq))
        have HB4 : Hid (Below w.heap.size w w4) := Lib.hid (by obtain ⟨nq, rfl⟩ := HQ.out; exact below_drewN HB2.out nq)
        clear HQ S HO2 HB2
        have hs2 : SliceIn (w4.alloc (.cells #[.string F, .string B] 9)) (w4.alloc (.cells #[.string F, .string B] 9)).heap.size 1 (some ⟨w4.heap.size, 0, none⟩) 2 2 (strsV [F.data.toList, B.data.toList]) := by
          have h := (RowAt.new w4 9 [.string F, .string B]).slice (size := 1) (n := 2) (c := 2) rfl (Nat.le_refl _) (by simp [maxLen])
          rw [strs_two]
          exact h
        have hba : Below w4.heap.size w4 (w4.alloc (.cells #[.string F, .string B] 9)) := (Below.refl _ _).alloc (Nat.le_refl _) _
        refine (Split_any _ _ _ _ _ hs2 ht2).mono ?_
        rw [J2.out]
        rintro e w5 ⟨v, rfl, hown1, hb5⟩
        obtain ⟨A5, c5, rfl, hin5⟩ := own_slice hown1
        have hbw := hba.trans (hb5.mono (by simp))
        have HO5 := own_below HO4.out hbw
        have HB5 := Lib.hid (below_step HB4.out hbw)
        obtain ⟨A6, c6, h6, hin6⟩ := own_slice HO5
        injection h6 with e1 e2 e3
        subst e1 e3
        have S := Lib.hid (Same_any _ _ _ _ _ _ _ _ _ _ _ hin5 hin6)
        rw [sameL_self] at S
        clear hown1 hin5 hin6 hs2 hba hb5 hbw HO4 HB4 HO5
        go_wp2_with (go_at_call 19; refine S.out.mono ?_; rintro e w6 ⟨rfl, nq, rfl⟩)
        go_ret
        exact ⟨rfl, below_drewN HB5.out nq⟩
end Go.Proofs.YtclgkkencpkjpaaGreatDoor
