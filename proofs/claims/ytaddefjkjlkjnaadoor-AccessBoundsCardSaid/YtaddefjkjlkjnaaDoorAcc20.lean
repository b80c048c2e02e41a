/- Walk of layer 28: one reply, read from its line, by the document. Condition: lines within 10^8 octets. -/
import Derived.Test.YtaddefjkjlkjnaaDoorAcc18
import Derived.Test.YtaddefjkjlkjnaaDoorScr6
namespace Go.Proofs.YtaddefjkjlkjnaaDoor
open Go.RowKit IH
set_option maxRecDepth 100000
theorem cutN_step (k : Nat) (s : List UInt8) : cutN (k + 1) s = if (cut32 s).2.2 = true then (cutN k (cut32 s).2.1).map ((cut32 s).1 :: ·) else none := by
  unfold cut32
  conv => lhs; unfold cutN
  cases s.dropWhile (· != 32) with
  | nil => simp
  | cons c r => simp
theorem cut32_len (s : List UInt8) : (cut32 s).1.length ≤ s.length ∧ (cut32 s).2.1.length ≤ s.length := by
  have h1 := (List.takeWhile_prefix (l := s) (fun x : UInt8 => x != 32)).length_le
  have h2 := (List.dropWhile_suffix (l := s) (fun x : UInt8 => x != 32)).length_le
  unfold cut32
  split
  · simp
  · rename_i c r hr
    rw [hr] at h2
    simp at h2
    exact ⟨h1, by show r.length ≤ _; omega⟩
def lastK (w : List UInt8) : Nat → Int
  | 0 => 0
  | n + 1 => if word28 ((n + 1 : Nat) : Int) = w then ((n + 1 : Nat) : Int) else lastK w n
theorem lastK_all (w : List UInt8) : lastK w 5 = kind28 w := by
  by_cases h1 : w = w28 1
  · subst h1; decide
  by_cases h2 : w = w28 2
  · subst h2; decide
  by_cases h3 : w = w28 3
  · subst h3; decide
  by_cases h4 : w = w28 4
  · subst h4; decide
  by_cases h5 : w = w28 5
  · subst h5; decide
  unfold kind28
  rw [if_neg h1, if_neg h2, if_neg h3, if_neg h4, if_neg h5]
  have e : ∀ n : Nat, word28 (n : Int) = w28 n := fun n => rfl
  simp only [lastK, e]
  rw [if_neg (fun h => h5 h.symm), if_neg (fun h => h4 h.symm), if_neg (fun h => h3 h.symm), if_neg (fun h => h2 h.symm), if_neg (fun h => h1 h.symm)]
theorem list8 {α : Type} {l : List α} (h : l.length = 8) : ∃ a b c d e f g i, l = [a, b, c, d, e, f, g, i] := by
  match l, h with
  | [a, b, c, d, e, f, g, i], _ => exact ⟨a, b, c, d, e, f, g, i, rfl⟩
theorem str_beq (a b : ByteArray) (x y : List UInt8) (ha : a.data.toList = x) (hb : b.data.toList = y) : (a.toList == b.toList) = decide (x = y) := by
  rw [ByteArray.toList_eq, ByteArray.toList_eq, ha, hb, Bool.eq_iff_iff, beq_iff_eq, decide_eq_true_eq]
set_option maxHeartbeats 16000000 in
theorem refOne28_any (s : ByteArray) (hs : s.size ≤ 100000000) (w : World) :
    Calls Tryd.prog 82 #[.string s] w fun e w' => e = .returned (.tuple #[.agg (toldCells ((one28 s.data.toList).getD zero28)).toArray, .bool (one28 s.data.toList).isSome]) ∧ Below w.heap.size w w' := by
  obtain ⟨g0, hg0⟩ : ∃ g0, w.heap.size = g0 := ⟨_, rfl⟩
  obtain ⟨wa, hwa⟩ : ∃ wa, w.alloc (.cells (toldCells zero28).toArray 48) = wa := ⟨_, rfl⟩
  have hza : wa.heap.size = g0 + 1 := by rw [← hwa]; simp [hg0]
  have BA : Hid (Below g0 w wa) := Lib.hid (by rw [← hwa, ← hg0]; exact (Below.refl _ _).alloc (Nat.le_refl _) _)
  have RZ : Hid (RowAt wa g0 48 (toldCells zero28)) := Lib.hid (by rw [← hwa, ← hg0]; exact RowAt.new w _ _)
  rw [show (toldCells zero28).toArray = #[.int .i64 0, .int .i64 0, .int .i64 0, .int .i64 0, .string ⟨#[]⟩, .string ⟨#[]⟩, .string ⟨#[]⟩, .int .i64 0, .int .i64 0] from rfl] at hwa
  rw [hg0]
  obtain ⟨U, hU⟩ : ∃ U, one28 s.data.toList = U := ⟨_, rfl⟩
  rw [hU]
  have HU := Lib.hid hU
  clear hU
  obtain ⟨y, hy⟩ : ∃ y : Bool, U.isSome = y := ⟨_, rfl⟩
  rw [hy]
  have HY := Lib.hid hy
  clear hy
  have hg1 : g0 < wa.heap.size := by omega
  go_enter Tryd.func82, Tryd.ntmps82
  go_wp2
  go_loopw [4, 5, 6] (fun pv rv iv wr => ∃ (k : Nat) (L : List (List UInt8)) (R : ByteArray), k ≤ 8 ∧ iv = .int .i64 k ∧ rv = .string R ∧ R.size ≤ s.size ∧ L.length = k ∧ (∀ x ∈ L, x.length ≤ s.size) ∧ cutN 8 s.data.toList = (cutN (8 - k) R.data.toList).map (L ++ ·) ∧ wr.ownsRow wa.heap.size 9 1 pv L.length (strsV L) ∧ Below wa.heap.size wa wr) (fun _ _ iv _ => 8 - (intOf iv).toNat)
  case atStart => exact ⟨0, [], s, by omega, rfl, rfl, Nat.le_refl _, rfl, by simp, by simp, World.ownsRow_nil _ _ _ _, Below.refl _ _⟩
  case round =>
    obtain ⟨w2, rfl⟩ : ∃ w0 : World, w0 = wr := ⟨_, rfl⟩
    obtain ⟨k, L, R, hk, rfl, rfl, hR, hL, hsm, hcut, hrow, hbel⟩ := hrel
    have HO := Lib.hid hrow
    have B2 := Lib.hid hbel
    have HS := Lib.hid hsm
    have HC := Lib.hid hcut
    have HLk := Lib.hid hL
    have hz2 := hbel.size
    have hg2s : g0 < w2.heap.size := by omega
    have RZ2 := Lib.hid (RZ.out.below hbel hg1)
    clear hrow hbel hsm hcut hwa RZ
    by_cases hlt : k < 8
    · have kI : (k : Int) < 8 := by omega
      have CU := refCut_any R (by omega) w2
      have hst := cutN_step (8 - (k + 1)) R.data.toList
      rw [show 8 - (k + 1) + 1 = 8 - k by omega] at hst
      have hlen := cut32_len R.data.toList
      rw [data_len] at hlen
      obtain ⟨x1, hx1⟩ : ∃ x, (cut32 R.data.toList).1 = x := ⟨_, rfl⟩
      obtain ⟨x2, hx2⟩ : ∃ x, (cut32 R.data.toList).2.1 = x := ⟨_, rfl⟩
      obtain ⟨x3, hx3⟩ : ∃ x, (cut32 R.data.toList).2.2 = x := ⟨_, rfl⟩
      rw [hx1, hx2, hx3] at CU hst
      rw [hx1, hx2] at hlen
      replace CU := Lib.hid CU
      obtain ⟨l1, l2⟩ := hlen
      clear hx1 hx2 hx3
      cases x3 with
      | false =>
        have hu : U = none := by rw [← HU.out]; unfold one28; rw [HC.out, hst]; rfl
        have Hu := Lib.hid hu
        clear hu hst hL
        go_wp2_with (first
          | (go_at_call 128; refine CU.out.mono ?_; rintro e w3 ⟨rfl, q3, rfl⟩)
          | (refine wpList_store_row rfl 48 _ _ rfl g0 48 (toldCells zero28) (toldCells zero28) rfl rfl RZ2.out rfl (by kernel_rfl) (told_one _) ?_; intro w6 hr6 ho6; have q0 := hr6.cell (j := 0) rfl; have q1 := hr6.cell (j := 1) rfl; have q2 := hr6.cell (j := 2) rfl; have q3 := hr6.cell (j := 3) rfl; have q4 := hr6.cell (j := 4) rfl; have q5 := hr6.cell (j := 5) rfl; have q6 := hr6.cell (j := 6) rfl; have q7 := hr6.cell (j := 7) rfl; have q8 := hr6.cell (j := 8) rfl))
        exact bodyPost_ret (v := .tuple #[.agg (toldCells zero28).toArray, .bool false]) (by simp [results, Tryd.results82, go_sem, toldCells, zero28, q0, q1, q2, q3, q4, q5, q6, q7, q8]) rfl ⟨by rw [← HY.out, Hu.out]; rfl, ho6.below (BA.out.trans ((below_drewN B2.out _).mono (by omega))) (Nat.le_refl _)⟩
      | true =>
        rw [if_pos rfl] at hst
        obtain ⟨X1, hX1⟩ : ∃ X : ByteArray, (⟨x1.toArray⟩ : ByteArray) = X := ⟨_, rfl⟩
        obtain ⟨X2, hX2⟩ : ∃ X : ByteArray, (⟨x2.toArray⟩ : ByteArray) = X := ⟨_, rfl⟩
        rw [hX1, hX2] at CU
        have HN : Hid (cutN 8 s.data.toList = (cutN (8 - (k + 1)) X2.data.toList).map ((L ++ [x1]) ++ ·)) := Lib.hid (by
          rw [HC.out, hst, Option.map_map, ← hX2]
          congr 1
          funext z
          simp)
        have HS2 : Hid (∀ x ∈ L ++ [x1], x.length ≤ s.size) := Lib.hid (by
          intro x hx
          rcases List.mem_append.1 hx with hx | hx
          · exact HS.out x hx
          · rw [List.mem_singleton.1 hx]; omega)
        have hX2s : X2.size ≤ s.size := by rw [← hX2, size_mk]; omega
        have HV : Hid (strsV (L ++ [x1]) = strsV L ++ [.string X1]) := Lib.hid (by rw [← hX1]; simp [strsV])
        rw [hL] at HO
        clear hst hX1 hX2 hL
        go_wp2_with (first
          | (go_at_call 128; refine CU.out.mono ?_; rintro e w3 ⟨rfl, q3, rfl⟩; have HO3 := Lib.hid (own_below HO.out (below_drewN (Below.refl _ _) q3)); have B3 := Lib.hid (below_drewN B2.out q3); have hz3 : wa.heap.size ≤ (w2.drewN q3).heap.size := hz2)
          | (at_builtin; refine wpList_app str_ty rfl _ _ rfl wa.heap.size _ _ _ rfl HO3.out 1 1 [.string X1] rfl (by rfl) (one1 _ rfl) (by omega) (by simp only [maxLen]; omega) hz3 ?_; intro v' w4 hown hgr))
        go_roundw
        case rel => exact ⟨k + 1, L ++ [x1], X2, hlt, by go_num, rfl, hX2s, by rw [List.length_append, HLk.out]; rfl, HS2.out, HN.out, by rw [List.length_append, HLk.out, HV.out]; exact hown, B3.out.grown hgr hz3 fun q hq => (HO3.out.lt q hq).1⟩
        case measure => simp [intOf]; omega
    · have hk8 : k = 8 := by omega
      have hcut := HC.out
      rw [hk8, show 8 - 8 = 0 from rfl] at hcut
      simp only [cutN, Option.map_some] at hcut
      have kI8 : (8 : Int) ≤ (k : Int) := by omega
      have kn0 : 0 < k := by omega
      have kn1 : 1 < k := by omega
      have kz0 : (0 : Int) < (k : Int) := by omega
      have kz1 : (1 : Int) < (k : Int) := by omega
      have kz2 : (2 : Int) < (k : Int) := by omega
      have kz3 : (3 : Int) < (k : Int) := by omega
      have kz4 : (4 : Int) < (k : Int) := by omega
      have kz5 : (5 : Int) < (k : Int) := by omega
      have kz6 : (6 : Int) < (k : Int) := by omega
      have kz7 : (7 : Int) < (k : Int) := by omega
      have kn2 : 2 < k := by omega
      have kn3 : 3 < k := by omega
      have kn4 : 4 < k := by omega
      have kn5 : 5 < k := by omega
      have kn6 : 6 < k := by omega
      have kn7 : 7 < k := by omega
      rw [hL] at HO
      have hL8 := hL.trans hk8
      clear hL HLk
      obtain ⟨p0, p1, p2, p3, p4, p5, p6, p7, rfl⟩ := list8 hL8
      obtain ⟨A, cp, rfl, hin⟩ := own_slice HO.out
      obtain ⟨b, off, rfl, hgs, hcell⟩ := hin.2.2.2 (by omega)
      have hsm := HS.out
      have HCUT : Hid (cutN 8 s.data.toList = some [p0, p1, p2, p3, p4, p5, p6, p7, R.data.toList]) := Lib.hid hcut
      clear hcut hin HC
      obtain ⟨P0, hP0⟩ : ∃ X : ByteArray, (⟨p0.toArray⟩ : ByteArray) = X := ⟨_, rfl⟩
      have l0 : P0.data.toList = p0 := by rw [← hP0]
      have s0 : P0.size ≤ 100000000 := by rw [← hP0, size_mk]; have := hsm p0 (by simp); omega
      have c0 := hcell 0 (.string P0) (by simp [strsV, hP0])
      obtain ⟨P1, hP1⟩ : ∃ X : ByteArray, (⟨p1.toArray⟩ : ByteArray) = X := ⟨_, rfl⟩
      have l1 : P1.data.toList = p1 := by rw [← hP1]
      have s1 : P1.size ≤ 100000000 := by rw [← hP1, size_mk]; have := hsm p1 (by simp); omega
      have c1 := hcell 1 (.string P1) (by simp [strsV, hP1])
      obtain ⟨P2, hP2⟩ : ∃ X : ByteArray, (⟨p2.toArray⟩ : ByteArray) = X := ⟨_, rfl⟩
      have l2 : P2.data.toList = p2 := by rw [← hP2]
      have s2 : P2.size ≤ 100000000 := by rw [← hP2, size_mk]; have := hsm p2 (by simp); omega
      have c2 := hcell 2 (.string P2) (by simp [strsV, hP2])
      obtain ⟨P3, hP3⟩ : ∃ X : ByteArray, (⟨p3.toArray⟩ : ByteArray) = X := ⟨_, rfl⟩
      have l3 : P3.data.toList = p3 := by rw [← hP3]
      have s3 : P3.size ≤ 100000000 := by rw [← hP3, size_mk]; have := hsm p3 (by simp); omega
      have c3 := hcell 3 (.string P3) (by simp [strsV, hP3])
      obtain ⟨P4, hP4⟩ : ∃ X : ByteArray, (⟨p4.toArray⟩ : ByteArray) = X := ⟨_, rfl⟩
      have l4 : P4.data.toList = p4 := by rw [← hP4]
      have s4 : P4.size ≤ 100000000 := by rw [← hP4, size_mk]; have := hsm p4 (by simp); omega
      have c4 := hcell 4 (.string P4) (by simp [strsV, hP4])
      obtain ⟨P5, hP5⟩ : ∃ X : ByteArray, (⟨p5.toArray⟩ : ByteArray) = X := ⟨_, rfl⟩
      have l5 : P5.data.toList = p5 := by rw [← hP5]
      have s5 : P5.size ≤ 100000000 := by rw [← hP5, size_mk]; have := hsm p5 (by simp); omega
      have c5 := hcell 5 (.string P5) (by simp [strsV, hP5])
      obtain ⟨P6, hP6⟩ : ∃ X : ByteArray, (⟨p6.toArray⟩ : ByteArray) = X := ⟨_, rfl⟩
      have l6 : P6.data.toList = p6 := by rw [← hP6]
      have s6 : P6.size ≤ 100000000 := by rw [← hP6, size_mk]; have := hsm p6 (by simp); omega
      have c6 := hcell 6 (.string P6) (by simp [strsV, hP6])
      obtain ⟨P7, hP7⟩ : ∃ X : ByteArray, (⟨p7.toArray⟩ : ByteArray) = X := ⟨_, rfl⟩
      have l7 : P7.data.toList = p7 := by rw [← hP7]
      have s7 : P7.size ≤ 100000000 := by rw [← hP7, size_mk]; have := hsm p7 (by simp); omega
      have c7 := hcell 7 (.string P7) (by simp [strsV, hP7])
      simp only [Nat.add_zero] at c0
      clear hcell
      have D0 := fun w => refNumber28_any P0 (by omega) w
      rw [l0] at D0
      replace D0 := Lib.hid D0
      have D1 := fun w => refNumber28_any P1 (by omega) w
      rw [l1] at D1
      replace D1 := Lib.hid D1
      have D5 := fun w => refNumber28_any P5 (by omega) w
      rw [l5] at D5
      replace D5 := Lib.hid D5
      have D6 := fun w => refNumber28_any P6 (by omega) w
      rw [l6] at D6
      replace D6 := Lib.hid D6
      have D7 := fun w => refNumber28_any P7 (by omega) w
      rw [l7] at D7
      replace D7 := Lib.hid D7
      have D8 := fun w => refUnquote27_any R (by omega) w
      replace D8 := Lib.hid D8
      have hk8 := unquote27_len R.data.toList
      rw [data_len] at hk8
      obtain ⟨M, hM⟩ : ∃ X : ByteArray, (⟨(bare28 p3).toArray⟩ : ByteArray) = X := ⟨_, rfl⟩
      obtain ⟨Q, hQ⟩ : ∃ X : ByteArray, (⟨(bare28 p4).toArray⟩ : ByteArray) = X := ⟨_, rfl⟩
      have hm3 : (bare28 p3).length ≤ 100000000 := by
        have := hsm p3 (by simp)
        unfold bare28
        split
        · simp
        · omega
      have hm4 : (bare28 p4).length ≤ 100000000 := by
        have := hsm p4 (by simp)
        unfold bare28
        split
        · simp
        · omega
      obtain ⟨TT, hTT⟩ : ∃ T, told28 [p0, p1, p2, p3, p4, p5, p6, p7, R.data.toList] = T := ⟨_, rfl⟩
      obtain ⟨K, hK⟩ : ∃ X : ByteArray, (⟨(unquote27 R.data.toList).1.toArray⟩ : ByteArray) = X := ⟨_, rfl⟩
      have htc : toldCells TT = [.int .i64 (said28 p1), .int .i64 (kind28 p2), .int .i64 (said28 p0), .int .i64 (said28 p7), .string M, .string Q, .string K, .int .i64 (said28 p5), .int .i64 (said28 p6)] := by rw [← hTT, ← hM, ← hQ, ← hK]; rfl
      have hu : U = if right28 TT = true ∧ line28 TT = s.data.toList ++ [10] then some TT else none := by rw [← HU.out, ← hTT]; unfold one28; rw [HCUT.out]
      have hsmall : TT.method.length ≤ 1000000000 ∧ TT.uri.length ≤ 1000000000 ∧ TT.key.length ≤ 1000000000 := by rw [← hTT]; exact ⟨Nat.le_trans hm3 (by omega), Nat.le_trans hm4 (by omega), by show (unquote27 R.data.toList).1.length ≤ _; omega⟩
      have RT := fun W => refRight_any TT W hsmall
      have LT := fun W (h : right28 TT = true) => refLine28_any TT W (right28_fits h).1 ⟨by have := (right28_fits h).2.1; omega, by have := (right28_fits h).2.2.1; omega, by have := (right28_fits h).2.2.2; omega⟩
      rw [htc, refR28_eq] at RT
      rw [htc] at LT
      have HTC := Lib.hid htc
      have Hu := Lib.hid hu
      replace RT := Lib.hid RT
      replace LT := Lib.hid LT
      obtain ⟨kb, hkb⟩ : ∃ b, (unquote27 R.data.toList).1 = b := ⟨_, rfl⟩
      obtain ⟨kn, hkn⟩ : ∃ b, (unquote27 R.data.toList).2.1 = b := ⟨_, rfl⟩
      obtain ⟨ke, hke⟩ : ∃ b, (unquote27 R.data.toList).2.2 = b := ⟨_, rfl⟩
      rw [hkb, hkn, hke] at D8
      rw [hkb] at hK
      have HK := Lib.hid hK
      have HM : Hid ((⟨(bare28 P3.data.toList).toArray⟩ : ByteArray) = M) := Lib.hid (by rw [l3, hM])
      have HQ : Hid ((⟨(bare28 P4.data.toList).toArray⟩ : ByteArray) = Q) := Lib.hid (by rw [l4, hQ])
      have HP2 := Lib.hid l2
      have HLK := Lib.hid (lastK_all p2)
      clear hk8 hm3 hm4 hTT hK htc hu hkb hkn hke hM hQ hsmall hsm HS HCUT
      clear hP0 hP1 hP2 hP3 hP4 hP5 hP6 hP7 l0 l1 l2 l3 l4 l5 l6 l7 hL8 hk8 hlt hR hk
      generalize said28 p0 = n0 at *
      generalize said28 p1 = n1 at *
      generalize kind28 p2 = n2 at *
      generalize said28 p5 = n5 at *
      generalize said28 p6 = n6 at *
      generalize said28 p7 = n7 at *
      go_upto_region 11 with fail
      go_cut [10] from 34 to 60 (fun s5 wx => ∃ g, s5 = .pointer (some ⟨g, 0, none⟩) ∧ w2.heap.size ≤ g ∧ RowAt wx g 48 [.int .i64 n1, .int .i64 0, .int .i64 n0, .int .i64 n7, .string P3, .string P4, .string ⟨#[]⟩, .int .i64 n5, .int .i64 n6] ∧ Below w2.heap.size w2 wx)
      case first =>
        refine wp_region_tree (fun W => Below w2.heap.size w2 W) (.take 0 (.take 1 (.take 2 (.take 4 (.take 5 (.take 6 (.take 8 (.take 9 (.take 10 (.take 11 (.take 12 (.take 13 (.take 14 (.take 15 (.take 16 (.take 18 (.take 19 (.take 20 (.take 22 (.take 23 (.take 24 (.node (.fork 3 (.node (.fork 7 (.node (.fork 17 (.node (.fork 21 (.node (.fork 25 (.take 26 (.node (.fork 27 (.node (.fork 28 (.done) (.stop))) (.stop)))) (.fork 27 (.node (.fork 25 (.take 26 (.node (.fork 28 (.done) (.stop)))) (.stop))) (.stop)))) (.fork 27 (.node (.fork 21 (.node (.fork 25 (.take 26 (.node (.fork 28 (.done) (.stop)))) (.stop))) (.stop))) (.stop)))) (.fork 27 (.node (.fork 17 (.node (.fork 21 (.node (.fork 25 (.take 26 (.node (.fork 28 (.done) (.stop)))) (.stop))) (.stop))) (.stop))) (.stop)))) (.fork 27 (.node (.fork 7 (.node (.fork 17 (.node (.fork 21 (.node (.fork 25 (.take 26 (.node (.fork 28 (.done) (.stop)))) (.stop))) (.stop))) (.stop))) (.stop))) (.stop)))) (.fork 27 (.node (.fork 3 (.node (.fork 7 (.node (.fork 17 (.node (.fork 21 (.node (.fork 25 (.take 26 (.node (.fork 28 (.done) (.stop)))) (.stop))) (.stop))) (.stop))) (.stop))) (.stop))) (.stop))))))))))))))))))))))))) (by kernel_rfl) (by kernel_rfl) (of_decide_eq_true (by kernel_rfl)) rfl (by kernel_rfl) (below_drewN (Below.refl _ _) 1) ?_
        intro w1 hH
        iterate 21
          refine tree_take (v := ?_) rfl (by rfl) ?_ ?_
          rotate_left
          · intro w2 hSw
            have x0 := (hSw.cell (p := ⟨b, off, none⟩) hgs).trans c0
            have x1 := (hSw.cell (p := ⟨b, off + 1, none⟩) hgs).trans c1
            have x3 := (hSw.cell (p := ⟨b, off + 3, none⟩) hgs).trans c3
            have x4 := (hSw.cell (p := ⟨b, off + 4, none⟩) hgs).trans c4
            have x5 := (hSw.cell (p := ⟨b, off + 5, none⟩) hgs).trans c5
            have x6 := (hSw.cell (p := ⟨b, off + 6, none⟩) hgs).trans c6
            have x7 := (hSw.cell (p := ⟨b, off + 7, none⟩) hgs).trans c7
            clear hSw
            go_simp
            try with_reducible rfl
          try simp only [Act.put, List.setIfInBounds_toArray, List.set_cons_zero, List.set_cons_succ]
        refine tree_node ?_
        refine tree_move rfl (by rfl) (fun K hK => ?_) ?_
        · go_simp
          (with_reducible refine (D0.out _).mono ?_)
          rintro e w5 ⟨rfl, rfl⟩
          refine hK.out _ _ (hH.out) ?_
          clear hH hK K
          intro hH
          try simp only [Act.put, List.setIfInBounds_toArray, List.set_cons_zero, List.set_cons_succ]
          refine tree_node ?_
          refine tree_move rfl (by rfl) (fun K hK => ?_) ?_
          · go_simp
            (with_reducible refine (D1.out _).mono ?_)
            rintro e w5 ⟨rfl, rfl⟩
            refine hK.out _ _ (hH.out) ?_
            clear hH hK K
            intro hH
            try simp only [Act.put, List.setIfInBounds_toArray, List.set_cons_zero, List.set_cons_succ]
            refine tree_node ?_
            refine tree_move rfl (by rfl) (fun K hK => ?_) ?_
            · go_simp
              (with_reducible refine (D5.out _).mono ?_)
              rintro e w5 ⟨rfl, rfl⟩
              refine hK.out _ _ (hH.out) ?_
              clear hH hK K
              intro hH
              try simp only [Act.put, List.setIfInBounds_toArray, List.set_cons_zero, List.set_cons_succ]
              refine tree_node ?_
              refine tree_move rfl (by rfl) (fun K hK => ?_) ?_
              · go_simp
                (with_reducible refine (D6.out _).mono ?_)
                rintro e w5 ⟨rfl, rfl⟩
                refine hK.out _ _ (hH.out) ?_
                clear hH hK K
                intro hH
                try simp only [Act.put, List.setIfInBounds_toArray, List.set_cons_zero, List.set_cons_succ]
                refine tree_node ?_
                refine tree_move rfl (by rfl) (fun K hK => ?_) ?_
                · go_simp
                  (with_reducible refine (D7.out _).mono ?_)
                  rintro e w5 ⟨rfl, rfl⟩
                  refine hK.out _ _ (hH.out) ?_
                  clear hH hK K
                  intro hH
                  try simp only [Act.put, List.setIfInBounds_toArray, List.set_cons_zero, List.set_cons_succ]
                  iterate 1
                    refine tree_take (v := ?_) rfl (by rfl) ?_ ?_
                    rotate_left
                    · intro w2 hSw
                      have x0 := (hSw.cell (p := ⟨b, off, none⟩) hgs).trans c0
                      have x1 := (hSw.cell (p := ⟨b, off + 1, none⟩) hgs).trans c1
                      have x3 := (hSw.cell (p := ⟨b, off + 3, none⟩) hgs).trans c3
                      have x4 := (hSw.cell (p := ⟨b, off + 4, none⟩) hgs).trans c4
                      have x5 := (hSw.cell (p := ⟨b, off + 5, none⟩) hgs).trans c5
                      have x6 := (hSw.cell (p := ⟨b, off + 6, none⟩) hgs).trans c6
                      have x7 := (hSw.cell (p := ⟨b, off + 7, none⟩) hgs).trans c7
                      clear hSw
                      go_simp
                      try with_reducible rfl
                    try simp only [Act.put, List.setIfInBounds_toArray, List.set_cons_zero, List.set_cons_succ]
                  refine tree_node ?_
                  refine tree_move rfl (by rfl) (fun K hK => ?_) ?_
                  · go_simp
                    refine hK.out _ _ (hH.out.alloc hH.out.size _) ?_
                    have HG := Lib.hid hH.out.size
                    have FB := Lib.hid (row_new28 hH 48 (toldCells zero28))
                    clear hH hK K
                    intro hH
                    try simp only [Act.put, List.setIfInBounds_toArray, List.set_cons_zero, List.set_cons_succ]
                    refine tree_node ?_
                    refine tree_move rfl (by rfl) (fun K hK => ?_) ?_
                    · refine wp_store_row 48 _ _ rfl _ _ [.int .i64 n1, .int .i64 0, .int .i64 n0, .int .i64 n7, .string P3, .string P4, .string ⟨#[]⟩, .int .i64 n5, .int .i64 n6] (toldCells zero28) rfl rfl FB.out rfl (by kernel_rfl) nine_one ?_
                      intro w7 hr7 ho7
                      refine hK.out _ _ (ho7.below hH.out HG.out) ?_
                      have FR := Lib.hid hr7
                      have HG2 := HG.out
                      clear hK K hr7 ho7 FB HG
                      intro hH
                      try simp only [Act.put]
                      refine tree_done ?_
                      go_wp2_with fail
                      go_meet
                      exact ⟨_, rfl, HG2, FR.out, hH.out⟩
                    exact tree_stop
                  exact tree_stop
                refine tree_move rfl (by rfl) (fun K hK => ?_) ?_
                · go_simp
                  refine hK.out _ _ (hH.out.alloc hH.out.size _) ?_
                  have HG := Lib.hid hH.out.size
                  have FB := Lib.hid (row_new28 hH 48 (toldCells zero28))
                  clear hH hK K
                  intro hH
                  try simp only [Act.put, List.setIfInBounds_toArray, List.set_cons_zero, List.set_cons_succ]
                  refine tree_node ?_
                  refine tree_move rfl (by rfl) (fun K hK => ?_) ?_
                  · go_simp
                    (with_reducible refine (D7.out _).mono ?_)
                    rintro e w5 ⟨rfl, rfl⟩
                    refine hK.out _ _ (hH.out) ?_
                    clear hH hK K
                    intro hH
                    try simp only [Act.put, List.setIfInBounds_toArray, List.set_cons_zero, List.set_cons_succ]
                    iterate 1
                      refine tree_take (v := ?_) rfl (by rfl) ?_ ?_
                      rotate_left
                      · intro w2 hSw
                        have x0 := (hSw.cell (p := ⟨b, off, none⟩) hgs).trans c0
                        have x1 := (hSw.cell (p := ⟨b, off + 1, none⟩) hgs).trans c1
                        have x3 := (hSw.cell (p := ⟨b, off + 3, none⟩) hgs).trans c3
                        have x4 := (hSw.cell (p := ⟨b, off + 4, none⟩) hgs).trans c4
                        have x5 := (hSw.cell (p := ⟨b, off + 5, none⟩) hgs).trans c5
                        have x6 := (hSw.cell (p := ⟨b, off + 6, none⟩) hgs).trans c6
                        have x7 := (hSw.cell (p := ⟨b, off + 7, none⟩) hgs).trans c7
                        clear hSw
                        go_simp
                        try with_reducible rfl
                      try simp only [Act.put, List.setIfInBounds_toArray, List.set_cons_zero, List.set_cons_succ]
                    refine tree_node ?_
                    refine tree_move rfl (by rfl) (fun K hK => ?_) ?_
                    · refine wp_store_row 48 _ _ rfl _ _ [.int .i64 n1, .int .i64 0, .int .i64 n0, .int .i64 n7, .string P3, .string P4, .string ⟨#[]⟩, .int .i64 n5, .int .i64 n6] (toldCells zero28) rfl rfl FB.out rfl (by kernel_rfl) nine_one ?_
                      intro w7 hr7 ho7
                      refine hK.out _ _ (ho7.below hH.out HG.out) ?_
                      have FR := Lib.hid hr7
                      have HG2 := HG.out
                      clear hK K hr7 ho7 FB HG
                      intro hH
                      try simp only [Act.put]
                      refine tree_done ?_
                      go_wp2_with fail
                      go_meet
                      exact ⟨_, rfl, HG2, FR.out, hH.out⟩
                    exact tree_stop
                  exact tree_stop
                exact tree_stop
              refine tree_move rfl (by rfl) (fun K hK => ?_) ?_
              · go_simp
                refine hK.out _ _ (hH.out.alloc hH.out.size _) ?_
                have HG := Lib.hid hH.out.size
                have FB := Lib.hid (row_new28 hH 48 (toldCells zero28))
                clear hH hK K
                intro hH
                try simp only [Act.put, List.setIfInBounds_toArray, List.set_cons_zero, List.set_cons_succ]
                refine tree_node ?_
                refine tree_move rfl (by rfl) (fun K hK => ?_) ?_
                · go_simp
                  (with_reducible refine (D6.out _).mono ?_)
                  rintro e w5 ⟨rfl, rfl⟩
                  refine hK.out _ _ (hH.out) ?_
                  clear hH hK K
                  intro hH
                  try simp only [Act.put, List.setIfInBounds_toArray, List.set_cons_zero, List.set_cons_succ]
                  refine tree_node ?_
                  refine tree_move rfl (by rfl) (fun K hK => ?_) ?_
                  · go_simp
                    (with_reducible refine (D7.out _).mono ?_)
                    rintro e w5 ⟨rfl, rfl⟩
                    refine hK.out _ _ (hH.out) ?_
                    clear hH hK K
                    intro hH
                    try simp only [Act.put, List.setIfInBounds_toArray, List.set_cons_zero, List.set_cons_succ]
                    iterate 1
                      refine tree_take (v := ?_) rfl (by rfl) ?_ ?_
                      rotate_left
                      · intro w2 hSw
                        have x0 := (hSw.cell (p := ⟨b, off, none⟩) hgs).trans c0
                        have x1 := (hSw.cell (p := ⟨b, off + 1, none⟩) hgs).trans c1
                        have x3 := (hSw.cell (p := ⟨b, off + 3, none⟩) hgs).trans c3
                        have x4 := (hSw.cell (p := ⟨b, off + 4, none⟩) hgs).trans c4
                        have x5 := (hSw.cell (p := ⟨b, off + 5, none⟩) hgs).trans c5
                        have x6 := (hSw.cell (p := ⟨b, off + 6, none⟩) hgs).trans c6
                        have x7 := (hSw.cell (p := ⟨b, off + 7, none⟩) hgs).trans c7
                        clear hSw
                        go_simp
                        try with_reducible rfl
                      try simp only [Act.put, List.setIfInBounds_toArray, List.set_cons_zero, List.set_cons_succ]
                    refine tree_node ?_
                    refine tree_move rfl (by rfl) (fun K hK => ?_) ?_
                    · refine wp_store_row 48 _ _ rfl _ _ [.int .i64 n1, .int .i64 0, .int .i64 n0, .int .i64 n7, .string P3, .string P4, .string ⟨#[]⟩, .int .i64 n5, .int .i64 n6] (toldCells zero28) rfl rfl FB.out rfl (by kernel_rfl) nine_one ?_
                      intro w7 hr7 ho7
                      refine hK.out _ _ (ho7.below hH.out HG.out) ?_
                      have FR := Lib.hid hr7
                      have HG2 := HG.out
                      clear hK K hr7 ho7 FB HG
                      intro hH
                      try simp only [Act.put]
                      refine tree_done ?_
                      go_wp2_with fail
                      go_meet
                      exact ⟨_, rfl, HG2, FR.out, hH.out⟩
                    exact tree_stop
                  exact tree_stop
                exact tree_stop
              exact tree_stop
            refine tree_move rfl (by rfl) (fun K hK => ?_) ?_
            · go_simp
              refine hK.out _ _ (hH.out.alloc hH.out.size _) ?_
              have HG := Lib.hid hH.out.size
              have FB := Lib.hid (row_new28 hH 48 (toldCells zero28))
              clear hH hK K
              intro hH
              try simp only [Act.put, List.setIfInBounds_toArray, List.set_cons_zero, List.set_cons_succ]
              refine tree_node ?_
              refine tree_move rfl (by rfl) (fun K hK => ?_) ?_
              · go_simp
                (with_reducible refine (D5.out _).mono ?_)
                rintro e w5 ⟨rfl, rfl⟩
                refine hK.out _ _ (hH.out) ?_
                clear hH hK K
                intro hH
                try simp only [Act.put, List.setIfInBounds_toArray, List.set_cons_zero, List.set_cons_succ]
                refine tree_node ?_
                refine tree_move rfl (by rfl) (fun K hK => ?_) ?_
                · go_simp
                  (with_reducible refine (D6.out _).mono ?_)
                  rintro e w5 ⟨rfl, rfl⟩
                  refine hK.out _ _ (hH.out) ?_
                  clear hH hK K
                  intro hH
                  try simp only [Act.put, List.setIfInBounds_toArray, List.set_cons_zero, List.set_cons_succ]
                  refine tree_node ?_
                  refine tree_move rfl (by rfl) (fun K hK => ?_) ?_
                  · go_simp
                    (with_reducible refine (D7.out _).mono ?_)
                    rintro e w5 ⟨rfl, rfl⟩
                    refine hK.out _ _ (hH.out) ?_
                    clear hH hK K
                    intro hH
                    try simp only [Act.put, List.setIfInBounds_toArray, List.set_cons_zero, List.set_cons_succ]
                    iterate 1
                      refine tree_take (v := ?_) rfl (by rfl) ?_ ?_
                      rotate_left
                      · intro w2 hSw
                        have x0 := (hSw.cell (p := ⟨b, off, none⟩) hgs).trans c0
                        have x1 := (hSw.cell (p := ⟨b, off + 1, none⟩) hgs).trans c1
                        have x3 := (hSw.cell (p := ⟨b, off + 3, none⟩) hgs).trans c3
                        have x4 := (hSw.cell (p := ⟨b, off + 4, none⟩) hgs).trans c4
                        have x5 := (hSw.cell (p := ⟨b, off + 5, none⟩) hgs).trans c5
                        have x6 := (hSw.cell (p := ⟨b, off + 6, none⟩) hgs).trans c6
                        have x7 := (hSw.cell (p := ⟨b, off + 7, none⟩) hgs).trans c7
                        clear hSw
                        go_simp
                        try with_reducible rfl
                      try simp only [Act.put, List.setIfInBounds_toArray, List.set_cons_zero, List.set_cons_succ]
                    refine tree_node ?_
                    refine tree_move rfl (by rfl) (fun K hK => ?_) ?_
                    · refine wp_store_row 48 _ _ rfl _ _ [.int .i64 n1, .int .i64 0, .int .i64 n0, .int .i64 n7, .string P3, .string P4, .string ⟨#[]⟩, .int .i64 n5, .int .i64 n6] (toldCells zero28) rfl rfl FB.out rfl (by kernel_rfl) nine_one ?_
                      intro w7 hr7 ho7
                      refine hK.out _ _ (ho7.below hH.out HG.out) ?_
                      have FR := Lib.hid hr7
                      have HG2 := HG.out
                      clear hK K hr7 ho7 FB HG
                      intro hH
                      try simp only [Act.put]
                      refine tree_done ?_
                      go_wp2_with fail
                      go_meet
                      exact ⟨_, rfl, HG2, FR.out, hH.out⟩
                    exact tree_stop
                  exact tree_stop
                exact tree_stop
              exact tree_stop
            exact tree_stop
          refine tree_move rfl (by rfl) (fun K hK => ?_) ?_
          · go_simp
            refine hK.out _ _ (hH.out.alloc hH.out.size _) ?_
            have HG := Lib.hid hH.out.size
            have FB := Lib.hid (row_new28 hH 48 (toldCells zero28))
            clear hH hK K
            intro hH
            try simp only [Act.put, List.setIfInBounds_toArray, List.set_cons_zero, List.set_cons_succ]
            refine tree_node ?_
            refine tree_move rfl (by rfl) (fun K hK => ?_) ?_
            · go_simp
              (with_reducible refine (D1.out _).mono ?_)
              rintro e w5 ⟨rfl, rfl⟩
              refine hK.out _ _ (hH.out) ?_
              clear hH hK K
              intro hH
              try simp only [Act.put, List.setIfInBounds_toArray, List.set_cons_zero, List.set_cons_succ]
              refine tree_node ?_
              refine tree_move rfl (by rfl) (fun K hK => ?_) ?_
              · go_simp
                (with_reducible refine (D5.out _).mono ?_)
                rintro e w5 ⟨rfl, rfl⟩
                refine hK.out _ _ (hH.out) ?_
                clear hH hK K
                intro hH
                try simp only [Act.put, List.setIfInBounds_toArray, List.set_cons_zero, List.set_cons_succ]
                refine tree_node ?_
                refine tree_move rfl (by rfl) (fun K hK => ?_) ?_
                · go_simp
                  (with_reducible refine (D6.out _).mono ?_)
                  rintro e w5 ⟨rfl, rfl⟩
                  refine hK.out _ _ (hH.out) ?_
                  clear hH hK K
                  intro hH
                  try simp only [Act.put, List.setIfInBounds_toArray, List.set_cons_zero, List.set_cons_succ]
                  refine tree_node ?_
                  refine tree_move rfl (by rfl) (fun K hK => ?_) ?_
                  · go_simp
                    (with_reducible refine (D7.out _).mono ?_)
                    rintro e w5 ⟨rfl, rfl⟩
                    refine hK.out _ _ (hH.out) ?_
                    clear hH hK K
                    intro hH
                    try simp only [Act.put, List.setIfInBounds_toArray, List.set_cons_zero, List.set_cons_succ]
                    iterate 1
                      refine tree_take (v := ?_) rfl (by rfl) ?_ ?_
                      rotate_left
                      · intro w2 hSw
                        have x0 := (hSw.cell (p := ⟨b, off, none⟩) hgs).trans c0
                        have x1 := (hSw.cell (p := ⟨b, off + 1, none⟩) hgs).trans c1
                        have x3 := (hSw.cell (p := ⟨b, off + 3, none⟩) hgs).trans c3
                        have x4 := (hSw.cell (p := ⟨b, off + 4, none⟩) hgs).trans c4
                        have x5 := (hSw.cell (p := ⟨b, off + 5, none⟩) hgs).trans c5
                        have x6 := (hSw.cell (p := ⟨b, off + 6, none⟩) hgs).trans c6
                        have x7 := (hSw.cell (p := ⟨b, off + 7, none⟩) hgs).trans c7
                        clear hSw
                        go_simp
                        try with_reducible rfl
                      try simp only [Act.put, List.setIfInBounds_toArray, List.set_cons_zero, List.set_cons_succ]
                    refine tree_node ?_
                    refine tree_move rfl (by rfl) (fun K hK => ?_) ?_
                    · refine wp_store_row 48 _ _ rfl _ _ [.int .i64 n1, .int .i64 0, .int .i64 n0, .int .i64 n7, .string P3, .string P4, .string ⟨#[]⟩, .int .i64 n5, .int .i64 n6] (toldCells zero28) rfl rfl FB.out rfl (by kernel_rfl) nine_one ?_
                      intro w7 hr7 ho7
                      refine hK.out _ _ (ho7.below hH.out HG.out) ?_
                      have FR := Lib.hid hr7
                      have HG2 := HG.out
                      clear hK K hr7 ho7 FB HG
                      intro hH
                      try simp only [Act.put]
                      refine tree_done ?_
                      go_wp2_with fail
                      go_meet
                      exact ⟨_, rfl, HG2, FR.out, hH.out⟩
                    exact tree_stop
                  exact tree_stop
                exact tree_stop
              exact tree_stop
            exact tree_stop
          exact tree_stop
        refine tree_move rfl (by rfl) (fun K hK => ?_) ?_
        · go_simp
          refine hK.out _ _ (hH.out.alloc hH.out.size _) ?_
          have HG := Lib.hid hH.out.size
          have FB := Lib.hid (row_new28 hH 48 (toldCells zero28))
          clear hH hK K
          intro hH
          try simp only [Act.put, List.setIfInBounds_toArray, List.set_cons_zero, List.set_cons_succ]
          refine tree_node ?_
          refine tree_move rfl (by rfl) (fun K hK => ?_) ?_
          · go_simp
            (with_reducible refine (D0.out _).mono ?_)
            rintro e w5 ⟨rfl, rfl⟩
            refine hK.out _ _ (hH.out) ?_
            clear hH hK K
            intro hH
            try simp only [Act.put, List.setIfInBounds_toArray, List.set_cons_zero, List.set_cons_succ]
            refine tree_node ?_
            refine tree_move rfl (by rfl) (fun K hK => ?_) ?_
            · go_simp
              (with_reducible refine (D1.out _).mono ?_)
              rintro e w5 ⟨rfl, rfl⟩
              refine hK.out _ _ (hH.out) ?_
              clear hH hK K
              intro hH
              try simp only [Act.put, List.setIfInBounds_toArray, List.set_cons_zero, List.set_cons_succ]
              refine tree_node ?_
              refine tree_move rfl (by rfl) (fun K hK => ?_) ?_
              · go_simp
                (with_reducible refine (D5.out _).mono ?_)
                rintro e w5 ⟨rfl, rfl⟩
                refine hK.out _ _ (hH.out) ?_
                clear hH hK K
                intro hH
                try simp only [Act.put, List.setIfInBounds_toArray, List.set_cons_zero, List.set_cons_succ]
                refine tree_node ?_
                refine tree_move rfl (by rfl) (fun K hK => ?_) ?_
                · go_simp
                  (with_reducible refine (D6.out _).mono ?_)
                  rintro e w5 ⟨rfl, rfl⟩
                  refine hK.out _ _ (hH.out) ?_
                  clear hH hK K
                  intro hH
                  try simp only [Act.put, List.setIfInBounds_toArray, List.set_cons_zero, List.set_cons_succ]
                  refine tree_node ?_
                  refine tree_move rfl (by rfl) (fun K hK => ?_) ?_
                  · go_simp
                    (with_reducible refine (D7.out _).mono ?_)
                    rintro e w5 ⟨rfl, rfl⟩
                    refine hK.out _ _ (hH.out) ?_
                    clear hH hK K
                    intro hH
                    try simp only [Act.put, List.setIfInBounds_toArray, List.set_cons_zero, List.set_cons_succ]
                    iterate 1
                      refine tree_take (v := ?_) rfl (by rfl) ?_ ?_
                      rotate_left
                      · intro w2 hSw
                        have x0 := (hSw.cell (p := ⟨b, off, none⟩) hgs).trans c0
                        have x1 := (hSw.cell (p := ⟨b, off + 1, none⟩) hgs).trans c1
                        have x3 := (hSw.cell (p := ⟨b, off + 3, none⟩) hgs).trans c3
                        have x4 := (hSw.cell (p := ⟨b, off + 4, none⟩) hgs).trans c4
                        have x5 := (hSw.cell (p := ⟨b, off + 5, none⟩) hgs).trans c5
                        have x6 := (hSw.cell (p := ⟨b, off + 6, none⟩) hgs).trans c6
                        have x7 := (hSw.cell (p := ⟨b, off + 7, none⟩) hgs).trans c7
                        clear hSw
                        go_simp
                        try with_reducible rfl
                      try simp only [Act.put, List.setIfInBounds_toArray, List.set_cons_zero, List.set_cons_succ]
                    refine tree_node ?_
                    refine tree_move rfl (by rfl) (fun K hK => ?_) ?_
                    · refine wp_store_row 48 _ _ rfl _ _ [.int .i64 n1, .int .i64 0, .int .i64 n0, .int .i64 n7, .string P3, .string P4, .string ⟨#[]⟩, .int .i64 n5, .int .i64 n6] (toldCells zero28) rfl rfl FB.out rfl (by kernel_rfl) nine_one ?_
                      intro w7 hr7 ho7
                      refine hK.out _ _ (ho7.below hH.out HG.out) ?_
                      have FR := Lib.hid hr7
                      have HG2 := HG.out
                      clear hK K hr7 ho7 FB HG
                      intro hH
                      try simp only [Act.put]
                      refine tree_done ?_
                      go_wp2_with fail
                      go_meet
                      exact ⟨_, rfl, HG2, FR.out, hH.out⟩
                    exact tree_stop
                  exact tree_stop
                exact tree_stop
              exact tree_stop
            exact tree_stop
          exact tree_stop
        exact tree_stop
      case rest =>
        obtain ⟨w3, rfl⟩ : ∃ W : World, W = wc := ⟨_, rfl⟩
        obtain ⟨g, rfl, hg2, hr3, hb3⟩ := hcut
        have R3 := Lib.hid hr3
        have B3 := Lib.hid hb3
        clear hr3 hb3 D0 D1 D5 D6 D7 c0 c1 c3 c4 c5 c6 c7
        go_wp2_with fail
        go_loopw [11] (fun kv wr => ∃ k m : Nat, k = m + 1 ∧ m ≤ 5 ∧ kv = .int .i64 k ∧ RowAt wr g 48 [.int .i64 n1, .int .i64 (lastK p2 m), .int .i64 n0, .int .i64 n7, .string P3, .string P4, .string ⟨#[]⟩, .int .i64 n5, .int .i64 n6] ∧ Below w2.heap.size w2 wr) (fun kv _ => 6 - (intOf kv).toNat)
        case atStart => exact ⟨1, 0, rfl, by omega, rfl, R3.out, B3.out⟩
        case round =>
          clear R3 B3
          obtain ⟨w4, rfl⟩ : ∃ w0 : World, w0 = wr := ⟨_, rfl⟩
          obtain ⟨k, m, hkm, hm, rfl, hr4, hb4⟩ := hrel
          have R4 := Lib.hid hr4
          have B4 := Lib.hid hb4
          have hz4 := hb4.size
          clear hb4
          by_cases hlt : m < 5
          · have kI : (k : Int) ≤ 5 := by omega
            have hk6 : k ≤ 5 := by omega
            obtain ⟨X, hX⟩ : ∃ X : ByteArray, (⟨(word28 (k : Int)).toArray⟩ : ByteArray) = X := ⟨_, rfl⟩
            have WD := fun w => refWord_any (k : Int) w
            rw [hX] at WD
            replace WD := Lib.hid WD
            have E0 := Lib.hid (str_beq X P2 (word28 (k : Int)) p2 (by rw [← hX]) HP2.out)
            have HLS : Hid (lastK p2 (m + 1) = if word28 (k : Int) = p2 then (k : Int) else lastK p2 m) := Lib.hid (by rw [hkm]; rfl)
            have x2 := (B4.out.cell (p := ⟨b, off + 2, none⟩) hgs).trans c2
            have hgs4 : b < w4.heap.size := by omega
            have hkm1 : Hid (k + 1 = (m + 1) + 1) := Lib.hid (by omega)
            have hm1 : m + 1 ≤ 5 := hlt
            have hgw4 := hr4.lt
            clear hX hkm
            go_upto_region 15 with fail
            refine wp_region_plan (fun W => Below w4.heap.size w4 W) [(0, true), (2, true), (3, true), (4, true), (1, false), (5, true)] (by kernel_rfl) (by kernel_rfl) rfl (by kernel_rfl) (below_drewN (Below.refl _ _) 1) ?_
            intro w1 hH
            iterate 4
              refine plan_take (v := ?_) rfl (by rfl) ?_ ?_
              rotate_left
              · intro w2 hSw
                have z2 := (hSw.cell (p := ⟨b, off + 2, none⟩) hgs4).trans x2
                clear hSw
                go_simp
                try with_reducible rfl
              try simp only [Act.put, List.setIfInBounds_toArray, List.set_cons_zero, List.set_cons_succ]
            refine plan_move rfl (by rfl) (fun K hK => ?_)
            go_simp
            (with_reducible refine (WD.out _).mono ?_)
            rintro e w5 ⟨rfl, hb5⟩
            refine hK.out _ _ (below_step hH.out hb5) ?_
            clear hH hK hb5 K
            intro hH
            try simp only [Act.put, List.setIfInBounds_toArray, List.set_cons_zero, List.set_cons_succ]
            iterate 1
              refine plan_take (v := ?_) rfl (by rfl) ?_ ?_
              rotate_left
              · intro w2 hSw
                have z2 := (hSw.cell (p := ⟨b, off + 2, none⟩) hgs4).trans x2
                clear hSw
                go_simp
                try with_reducible rfl
              try simp only [Act.put, List.setIfInBounds_toArray, List.set_cons_zero, List.set_cons_succ]
            refine plan_done ?_
            have R5 := Lib.hid (R4.out.below hH.out hgw4)
            have B5 := Lib.hid (B4.out.trans (hH.out.mono hz4))
            clear hH hr4 x2
            have e0 := E0.out
            clear E0
            by_cases he : word28 (k : Int) = p2
            · rw [decide_eq_true he] at e0
              simp only [e0]
              rw [if_pos he] at HLS
              have f1 := R5.out.frozen (j := 1) (by show 1 < 9; omega)
              have e1 := R5.out.cell (j := 1) rfl
              have hr6 := R5.out.set_ (j := 1) (by show 1 < 9; omega) (.int .i64 k)
              have hb6 := B5.out.setCell (p := ⟨g, 1, none⟩) hg2 (.int .i64 k)
              have R6 := Lib.hid hr6
              have B6 := Lib.hid hb6
              clear he hr6 hb6
              go_wp2_with fail
              go_roundw
              case rel => exact ⟨k + 1, m + 1, hkm1.out, hm1, by go_num, by rw [HLS.out]; exact R6.out, B6.out⟩
              case measure => simp [intOf]; omega
            · rw [decide_eq_false he] at e0
              simp only [e0]
              rw [if_neg he] at HLS
              clear he
              go_wp2_with fail
              go_roundw
              case rel => exact ⟨k + 1, m + 1, hkm1.out, hm1, by go_num, by rw [HLS.out]; exact R5.out, B5.out⟩
              case measure => simp [intOf]; omega
          · obtain rfl : m = 5 := by omega
            have k6 : (6 : Int) ≤ (k : Int) := by omega
            rw [HLK.out] at R4
            clear hr4 hlt hm hkm
            have y4 := R4.out.cell (j := 4) rfl
            have f4 := R4.out.frozen (j := 4) (by show 4 < 9; omega)
            have RZ4 := Lib.hid (RZ2.out.below B4.out RZ2.out.lt)
            clear hz4
            obtain ⟨tb, htb⟩ : ∃ b : Bool, decide (P3.data.toList = [45]) = b := ⟨_, rfl⟩
            have HTB := Lib.hid htb
            clear htb
            go_upto_region 17 with fail
            go_cut [75] from 73 to 75 (fun sx wx => sx = .bool tb ∧ wx = w4)
            case first =>
              by_cases h : P3.data.toList = [45]
              · have e0 : (P3.toList == [45]) = true := by rw [ByteArray.toList_eq, beq_iff_eq]; exact h
                have HT : Hid (tb = true) := Lib.hid (by rw [← HTB.out]; exact decide_eq_true h)
                clear h
                go_wp2_with fail
                go_meet
                exact ⟨by rw [HT.out], rfl⟩
              · have e0 : (P3.toList == [45]) = false := by rw [beq_eq_false_iff_ne, ByteArray.toList_eq]; exact h
                have HT : Hid (tb = false) := Lib.hid (by rw [← HTB.out]; exact decide_eq_false h)
                clear h
                go_wp2_with fail
                go_meet
                exact ⟨by rw [HT.out], rfl⟩
            case rest =>
            obtain ⟨rfl, rfl⟩ := hcut
            go_upto_if 75 with fail
            go_cut [11] from 76 to 76 (fun s11 wx => RowAt wx g 48 [.int .i64 n1, .int .i64 n2, .int .i64 n0, .int .i64 n7, .string M, .string P4, .string ⟨#[]⟩, .int .i64 n5, .int .i64 n6] ∧ Below w2.heap.size w2 wx)
            case first =>
              cases tb with
              | true =>
                have hM : M = ⟨#[]⟩ := by rw [← HM.out, of_decide_eq_true HTB.out]; rfl
                have hr6 := R4.out.set_ (j := 4) (by show 4 < 9; omega) (.string ⟨#[]⟩)
                have hb6 := B4.out.setCell (p := ⟨g, 4, none⟩) hg2 (.string ⟨#[]⟩)
                have HM2 := Lib.hid hM
                have R6 := Lib.hid hr6
                have B6 := Lib.hid hb6
                clear hM hr6 hb6
                go_wp2_with fail
                go_meet
                exact ⟨by rw [HM2.out]; exact R6.out, B6.out⟩
              | false =>
                have hM : M = P3 := by rw [← HM.out]; unfold bare28; rw [if_neg (of_decide_eq_false HTB.out), Lib.mk_data]
                have HM2 := Lib.hid hM
                clear hM
                go_wp2_with fail
                go_meet
                exact ⟨by rw [HM2.out]; exact R4.out, B4.out⟩
            case rest =>
            clear R4 B4 y4 f4 RZ4 HTB
            obtain ⟨w5, rfl⟩ : ∃ W : World, W = wc := ⟨_, rfl⟩
            obtain ⟨hr5, hb5⟩ := hcut
            have R5 := Lib.hid hr5
            have B5 := Lib.hid hb5
            clear hr5 hb5
            have y5 := R5.out.cell (j := 5) rfl
            have f5 := R5.out.frozen (j := 5) (by show 5 < 9; omega)
            obtain ⟨tb, htb⟩ : ∃ b : Bool, decide (P4.data.toList = [45]) = b := ⟨_, rfl⟩
            have HTB := Lib.hid htb
            clear htb
            go_upto_region 19 with fail
            go_cut [79] from 77 to 79 (fun sx wx => sx = .bool tb ∧ wx = w5)
            case first =>
              by_cases h : P4.data.toList = [45]
              · have e0 : (P4.toList == [45]) = true := by rw [ByteArray.toList_eq, beq_iff_eq]; exact h
                have HT : Hid (tb = true) := Lib.hid (by rw [← HTB.out]; exact decide_eq_true h)
                clear h
                go_wp2_with fail
                go_meet
                exact ⟨by rw [HT.out], rfl⟩
              · have e0 : (P4.toList == [45]) = false := by rw [beq_eq_false_iff_ne, ByteArray.toList_eq]; exact h
                have HT : Hid (tb = false) := Lib.hid (by rw [← HTB.out]; exact decide_eq_false h)
                clear h
                go_wp2_with fail
                go_meet
                exact ⟨by rw [HT.out], rfl⟩
            case rest =>
            obtain ⟨rfl, rfl⟩ := hcut
            go_upto_if 79 with fail
            go_cut [11] from 80 to 80 (fun s11 wx => RowAt wx g 48 [.int .i64 n1, .int .i64 n2, .int .i64 n0, .int .i64 n7, .string M, .string Q, .string ⟨#[]⟩, .int .i64 n5, .int .i64 n6] ∧ Below w2.heap.size w2 wx)
            case first =>
              cases tb with
              | true =>
                have hM : Q = ⟨#[]⟩ := by rw [← HQ.out, of_decide_eq_true HTB.out]; rfl
                have hr6 := R5.out.set_ (j := 5) (by show 5 < 9; omega) (.string ⟨#[]⟩)
                have hb6 := B5.out.setCell (p := ⟨g, 5, none⟩) hg2 (.string ⟨#[]⟩)
                have HM2 := Lib.hid hM
                have R6 := Lib.hid hr6
                have B6 := Lib.hid hb6
                clear hM hr6 hb6
                go_wp2_with fail
                go_meet
                exact ⟨by rw [HM2.out]; exact R6.out, B6.out⟩
              | false =>
                have hM : Q = P4 := by rw [← HQ.out]; unfold bare28; rw [if_neg (of_decide_eq_false HTB.out), Lib.mk_data]
                have HM2 := Lib.hid hM
                clear hM
                go_wp2_with fail
                go_meet
                exact ⟨by rw [HM2.out]; exact R5.out, B5.out⟩
            case rest =>
            clear R5 B5 y5 f5 HTB
            obtain ⟨w6, rfl⟩ : ∃ W : World, W = wc := ⟨_, rfl⟩
            obtain ⟨hr6, hb6⟩ := hcut
            have R6 := Lib.hid hr6
            have B6 := Lib.hid hb6
            have RZ6 := Lib.hid (RZ2.out.below hb6 RZ2.out.lt)
            have hz6 := hb6.size
            clear hr6 hb6
            go_upto_region 22 with (go_at_call 130; refine (D8.out _).mono ?_; rintro e w7 ⟨v7, rfl, ho7, hb7⟩)
            obtain ⟨A7, q7, rfl, hs7⟩ := own_slice ho7
            have hc1 := run_string_of (P := Tryd.prog) hs7 22 9 5 Tryd.underlying22 Tryd.underlying5 Tryd.underlying9
            rw [HK.out] at hc1
            have R7 := Lib.hid (R6.out.below hb7 R6.out.lt)
            have RZ7 := Lib.hid (RZ6.out.below hb7 RZ6.out.lt)
            have B7 := Lib.hid (B6.out.trans (hb7.mono hz6))
            have f6 := R7.out.frozen (j := 6) (by show 6 < 9; omega)
            have e6 := R7.out.cell (j := 6) rfl
            clear R6 RZ6 B6 ho7 hs7 hb7 D8
            go_upto_region 23 with fail
            obtain ⟨w8, hw8⟩ : ∃ W, w7.setCell ⟨g, 6, none⟩ (.string K) = W := ⟨_, rfl⟩
            rw [hw8]
            have R8 : Hid (RowAt w8 g 48 [.int .i64 n1, .int .i64 n2, .int .i64 n0, .int .i64 n7, .string M, .string Q, .string K, .int .i64 n5, .int .i64 n6]) := Lib.hid (by rw [← hw8]; exact R7.out.set_ (j := 6) (by show 6 < 9; omega) (.string K))
            have RZ8 : Hid (RowAt w8 g0 48 (toldCells zero28)) := Lib.hid (by rw [← hw8]; exact RZ7.out.far (p := ⟨g, 6, none⟩) (by show g0 ≠ g; omega) _)
            have B8 : Hid (Below g0 w w8) := Lib.hid (by rw [← hw8]; exact ((BA.out.trans (B2.out.mono (by omega))).trans (B7.out.mono (by omega))).setCell (p := ⟨g, 6, none⟩) (by show g0 ≤ g; omega) _)
            clear hc1 hw8 f6 e6 R7 RZ7 B7
            have y0 := R8.out.cell (j := 0) rfl
            have y1 := R8.out.cell (j := 1) rfl
            have y2 := R8.out.cell (j := 2) rfl
            have y3 := R8.out.cell (j := 3) rfl
            have y4 := R8.out.cell (j := 4) rfl
            have y5 := R8.out.cell (j := 5) rfl
            have y6 := R8.out.cell (j := 6) rfl
            have y7 := R8.out.cell (j := 7) rfl
            have y8 := R8.out.cell (j := 8) rfl
            obtain ⟨rr, hrr⟩ : ∃ r, right28 TT = r := ⟨_, rfl⟩
            rw [hrr] at RT LT Hu
            cases rr with
            | false =>
              have hU : U = none := by rw [Hu.out, if_neg (by simp)]
              have HUN := Lib.hid hU
              clear hU hrr LT
              go_wp2_with (first
                | (go_at_call 25; refine (RT.out _).mono ?_; rintro e w9 ⟨rfl, hb9⟩; have RZ9 := Lib.hid (RZ8.out.below hb9 RZ8.out.lt); have B9 := Lib.hid (B8.out.trans (hb9.mono (by have := RZ8.out.lt; omega))); clear hb9)
                | (refine wpList_store_row rfl 48 _ _ rfl g0 48 (toldCells zero28) (toldCells zero28) rfl rfl RZ9.out rfl (by kernel_rfl) (told_one _) ?_; intro wz hrz hoz; have q0 := hrz.cell (j := 0) rfl; have q1 := hrz.cell (j := 1) rfl; have q2 := hrz.cell (j := 2) rfl; have q3 := hrz.cell (j := 3) rfl; have q4 := hrz.cell (j := 4) rfl; have q5 := hrz.cell (j := 5) rfl; have q6 := hrz.cell (j := 6) rfl; have q7 := hrz.cell (j := 7) rfl; have q8 := hrz.cell (j := 8) rfl))
              exact bodyPost_ret (v := .tuple #[.agg (toldCells zero28).toArray, .bool false]) (by simp [results, Tryd.results82, go_sem, toldCells, zero28, q0, q1, q2, q3, q4, q5, q6, q7, q8]) rfl ⟨by rw [← HY.out, HUN.out]; rfl, hoz.below B9.out (Nat.le_refl _)⟩
            | true =>
              obtain ⟨Z, hZ⟩ : ∃ X : ByteArray, (⟨(line28 TT).toArray⟩ : ByteArray) = X := ⟨_, rfl⟩
              have lt2 := fun W => LT.out W rfl
              rw [hZ] at lt2
              have LT2 := Lib.hid lt2
              clear lt2 LT
              obtain ⟨tb, htb⟩ : ∃ b, (Z.toList == (s ++ (⟨#[10]⟩ : ByteArray)).toList) = b := ⟨_, rfl⟩
              have htn : (Z.toList != (s ++ (⟨#[10]⟩ : ByteArray)).toList) = !tb := by rw [← htb]; rfl
              have hdz : (line28 TT = s.data.toList ++ [10]) ↔ tb = true := by
                rw [← htb, ← hZ, beq_iff_eq, ByteArray.toList_eq, ByteArray.toList_eq]
                simp
              have hut : U = if tb then some TT else none := by
                rw [Hu.out]
                cases tb with
                | true => rw [if_pos ⟨rfl, hdz.2 rfl⟩]; rfl
                | false => rw [if_neg (fun h => by have := hdz.1 h.2; simp at this)]; rfl
              have HU2 := Lib.hid hut
              clear hut hdz hZ hrr Hu
              have B8s : g0 ≤ w8.heap.size := by have := RZ8.out.lt; omega
              cases tb with
              | false =>
                have htn : (Z.toList != (s ++ (⟨#[10]⟩ : ByteArray)).toList) = true := htn
                go_wp2_with (first
                  | (go_at_call 25; refine (RT.out _).mono ?_; rintro e w9 ⟨rfl, hb9⟩; have R9 := Lib.hid (R8.out.below hb9 R8.out.lt); have RZ9 := Lib.hid (RZ8.out.below hb9 RZ8.out.lt); have B9 := Lib.hid (B8.out.trans (hb9.mono B8s)); clear hb9; have y0 := R9.out.cell (j := 0) rfl; have y1 := R9.out.cell (j := 1) rfl; have y2 := R9.out.cell (j := 2) rfl; have y3 := R9.out.cell (j := 3) rfl; have y4 := R9.out.cell (j := 4) rfl; have y5 := R9.out.cell (j := 5) rfl; have y6 := R9.out.cell (j := 6) rfl; have y7 := R9.out.cell (j := 7) rfl; have y8 := R9.out.cell (j := 8) rfl)
                  | (go_at_call 26; refine (LT2.out _).mono ?_; rintro e wx ⟨rfl, hbx⟩; have RX := Lib.hid (R9.out.below hbx R9.out.lt); have RZX := Lib.hid (RZ9.out.below hbx RZ9.out.lt); have BX := Lib.hid (B9.out.trans (hbx.mono (by have := RZ9.out.lt; omega))); clear hbx; have y0 := RX.out.cell (j := 0) rfl; have y1 := RX.out.cell (j := 1) rfl; have y2 := RX.out.cell (j := 2) rfl; have y3 := RX.out.cell (j := 3) rfl; have y4 := RX.out.cell (j := 4) rfl; have y5 := RX.out.cell (j := 5) rfl; have y6 := RX.out.cell (j := 6) rfl; have y7 := RX.out.cell (j := 7) rfl; have y8 := RX.out.cell (j := 8) rfl)
                  | (refine wpList_store_row rfl 48 _ _ rfl g0 48 (toldCells zero28) (toldCells zero28) rfl rfl RZX.out rfl (by kernel_rfl) (told_one _) ?_; intro wz hrz hoz; have q0 := hrz.cell (j := 0) rfl; have q1 := hrz.cell (j := 1) rfl; have q2 := hrz.cell (j := 2) rfl; have q3 := hrz.cell (j := 3) rfl; have q4 := hrz.cell (j := 4) rfl; have q5 := hrz.cell (j := 5) rfl; have q6 := hrz.cell (j := 6) rfl; have q7 := hrz.cell (j := 7) rfl; have q8 := hrz.cell (j := 8) rfl))
                exact bodyPost_ret (v := .tuple #[.agg (toldCells zero28).toArray, .bool false]) (by simp [results, Tryd.results82, go_sem, toldCells, zero28, q0, q1, q2, q3, q4, q5, q6, q7, q8]) rfl ⟨by rw [← HY.out, HU2.out]; rfl, hoz.below BX.out (Nat.le_refl _)⟩
              | true =>
                have htn : (Z.toList != (s ++ (⟨#[10]⟩ : ByteArray)).toList) = false := htn
                go_wp2_with (first
                  | (go_at_call 25; refine (RT.out _).mono ?_; rintro e w9 ⟨rfl, hb9⟩; have R9 := Lib.hid (R8.out.below hb9 R8.out.lt); have RZ9 := Lib.hid (RZ8.out.below hb9 RZ8.out.lt); have B9 := Lib.hid (B8.out.trans (hb9.mono B8s)); clear hb9; have y0 := R9.out.cell (j := 0) rfl; have y1 := R9.out.cell (j := 1) rfl; have y2 := R9.out.cell (j := 2) rfl; have y3 := R9.out.cell (j := 3) rfl; have y4 := R9.out.cell (j := 4) rfl; have y5 := R9.out.cell (j := 5) rfl; have y6 := R9.out.cell (j := 6) rfl; have y7 := R9.out.cell (j := 7) rfl; have y8 := R9.out.cell (j := 8) rfl)
                  | (go_at_call 26; refine (LT2.out _).mono ?_; rintro e wx ⟨rfl, hbx⟩; have RX := Lib.hid (R9.out.below hbx R9.out.lt); have RZX := Lib.hid (RZ9.out.below hbx RZ9.out.lt); have BX := Lib.hid (B9.out.trans (hbx.mono (by have := RZ9.out.lt; omega))); clear hbx; have y0 := RX.out.cell (j := 0) rfl; have y1 := RX.out.cell (j := 1) rfl; have y2 := RX.out.cell (j := 2) rfl; have y3 := RX.out.cell (j := 3) rfl; have y4 := RX.out.cell (j := 4) rfl; have y5 := RX.out.cell (j := 5) rfl; have y6 := RX.out.cell (j := 6) rfl; have y7 := RX.out.cell (j := 7) rfl; have y8 := RX.out.cell (j := 8) rfl)
                  | (refine wpList_store_row rfl 48 _ _ rfl g0 48 [.int .i64 n1, .int .i64 n2, .int .i64 n0, .int .i64 n7, .string M, .string Q, .string K, .int .i64 n5, .int .i64 n6] (toldCells zero28) rfl rfl RZX.out rfl (by kernel_rfl) nine_one ?_; intro wz hrz hoz; have q0 := hrz.cell (j := 0) rfl; have q1 := hrz.cell (j := 1) rfl; have q2 := hrz.cell (j := 2) rfl; have q3 := hrz.cell (j := 3) rfl; have q4 := hrz.cell (j := 4) rfl; have q5 := hrz.cell (j := 5) rfl; have q6 := hrz.cell (j := 6) rfl; have q7 := hrz.cell (j := 7) rfl; have q8 := hrz.cell (j := 8) rfl))
                exact bodyPost_ret (v := .tuple #[.agg (toldCells TT).toArray, .bool true]) (by rw [HTC.out]; simp [results, Tryd.results82, go_sem, q0, q1, q2, q3, q4, q5, q6, q7, q8]) rfl ⟨by rw [← HY.out, HU2.out]; rfl, hoz.below BX.out (Nat.le_refl _)⟩
end Go.Proofs.YtaddefjkjlkjnaaDoor
