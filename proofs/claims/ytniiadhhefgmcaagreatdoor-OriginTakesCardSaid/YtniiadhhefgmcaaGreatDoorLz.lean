/- Lz: several texts, one behind the other. -/
import Derived.Test.YtniiadhhefgmcaaGreatDoorCz
import Derived.Test.YtniiadhhefgmcaaGreatDoorSta1
import Derived.Test.YtniiadhhefgmcaaGreatDoorSx
import Derived.Test.YtniiadhhefgmcaaGreatDoorShape
import Derived.Test.YtniiadhhefgmcaaGreatDoorRs
import Derived.Test.YtniiadhhefgmcaaGreatDoorMs
import Derived.Test.YtniiadhhefgmcaaGreatDoorOg
import Derived.Test.YtniiadhhefgmcaaGreatDoorOv
import Derived.Test.YtniiadhhefgmcaaGreatDoorKt
import Derived.Test.YtniiadhhefgmcaaGreatDoorFq
/- Walks of layer 6: a first line's octets, by the code and by the document. Condition: at most 10^9 octets. -/
namespace Go.Proofs.YtniiadhhefgmcaaGreatDoor
open Go.RowKit IH
set_option maxRecDepth 100000
set_option maxHeartbeats 4000000 in
theorem sline_any (b0 off n c B : Nat) (l : List UInt8) (most : Nat) (w : World) (hin : SliceIn w B 1 (some ⟨b0, off, none⟩) n c (bytesV l)) (hn : n ≤ 1000000000) (hmo : most ≤ 100000) :
    Calls Tryz.prog 147 #[.slice (some ⟨b0, off, none⟩) n c, .int .i64 most] w fun e w' => e = .returned (.tuple #[.string ⟨(lineS most l).1.toArray⟩, .int .i64 (lineS most l).2.1, .int .i64 (lineS most l).2.2]) ∧ Below w.heap.size w w' := by
  have hnc := hin.2.1
  have hll : l.length = n := by have := hin.1; rw [bytesV_length, Nat.mul_one] at this; exact this
  obtain ⟨m, hm⟩ : ∃ m, min n (most + 1) = m := ⟨_, rfl⟩
  have hmn : m ≤ n := by omega
  have hmI : min (n : Int) ((most : Int) + 1) = (m : Int) := by omega
  have hwm : IntKind.i64.wrap ((most : Int) + 1) = (most : Int) + 1 := IntWalk.i64_in _ ⟨by omega, by omega⟩
  have hsub := hin.sub (a := 0) (b := m) (by omega) hmn (some ⟨b0, off, none⟩) (fun _ => by simp [add_plain])
  simp only [Nat.sub_zero, Nat.mul_one, List.drop_zero] at hsub
  rw [show (bytesV l).take m = bytesV (l.take m) by simp [bytesV, List.map_take]] at hsub
  have htk : l.take m = l.take (most + 1) := by
    by_cases h : n ≤ most + 1
    · rw [List.take_of_length_le (by omega), List.take_of_length_le (by omega)]
    · rw [show m = most + 1 by omega]
  rw [htk] at hsub
  have IX := bIndexByte_at b0 off m c (l.take (most + 1)) w hsub
  rw [ixByte_find] at IX
  have j0 : m ≤ c := by omega
  have jI : (m : Int) ≤ (c : Int) := by omega
  clear hsub htk
  unfold lineS
  cases hf : (l.take (most + 1)).findIdx? (· == 10) with
  | none =>
    rw [hf] at IX
    simp only at IX ⊢
    replace IX := Lib.hid IX
    clear hf hin
    by_cases h1 : l.length ≤ most
    · rw [if_pos h1]
      have k1 : (n : Int) ≤ (most : Int) := by omega
      clear h1 hll hm
      go_enter Tryz.func147, Tryz.ntmps147
      go_wp2_with (go_at_call 168; refine IX.out.mono ?_; rintro e w2 ⟨rfl, rfl⟩)
      go_ret3
      exact ⟨rfl, by first | exact Below.refl _ _ | exact below_drewN (Below.refl _ _) 1⟩
    · rw [if_neg h1]
      have k1 : ¬ (n : Int) ≤ (most : Int) := by omega
      clear h1 hll hm
      go_enter Tryz.func147, Tryz.ntmps147
      go_wp2_with (go_at_call 168; refine IX.out.mono ?_; rintro e w2 ⟨rfl, rfl⟩)
      go_ret3
      exact ⟨rfl, by first | exact Below.refl _ _ | exact below_drewN (Below.refl _ _) 1⟩
  | some k =>
    rw [hf] at IX
    simp only at IX ⊢
    have hk := findIdx_lt hf
    rw [List.length_take] at hk
    replace IX := Lib.hid IX
    clear hf
    by_cases h0 : k = 0
    · subst h0
      rw [if_pos (.inl rfl)]
      clear hin hm
      go_enter Tryz.func147, Tryz.ntmps147
      go_wp2_with (go_at_call 168; refine IX.out.mono ?_; rintro e w2 ⟨rfl, rfl⟩)
      go_ret3
      exact ⟨rfl, by first | exact Below.refl _ _ | exact below_drewN (Below.refl _ _) 1⟩
    · obtain ⟨x, hx⟩ : ∃ x, l[k - 1]? = some x := ⟨_, List.getElem?_eq_getElem (by omega)⟩
      rw [hx]
      obtain ⟨j, rfl⟩ : ∃ j, k = j + 1 := ⟨k - 1, by omega⟩
      have e1 : j + 1 - 1 = j := by omega
      rw [e1] at hx
      have hcell : w.cell? ⟨b0, off + j, none⟩ = some (.int .u8 x.toNat) := by
        obtain ⟨b', o', e, _, hc⟩ := hin.2.2.2 (by omega)
        simp only [Option.some.injEq, Addr.mk.injEq, and_true] at e
        obtain ⟨rfl, rfl⟩ := e
        exact hc j (.int .u8 x.toNat) (by rw [bytesV_get, hx]; rfl)
      have i1 : ((j + 1 : Nat) : Int) - 1 = (j : Int) := by omega
      have i2 : (j : Int) < (n : Int) := by omega
      have i0 : (((j + 1 : Nat) : Int) == 0) = false := by rw [beq_eq_false_iff_ne]; omega
      have i3 : (j : Int) ≤ (n : Int) := by omega
      have j3 : j ≤ c := by omega
      have j4 : j < n := by omega
      by_cases h13 : x = 13
      · subst h13
        rw [if_neg (by rintro (h | h); omega; exact h rfl), e1]
        have hs2 := hin.sub (a := 0) (b := j) (by omega) (by omega) (some ⟨b0, off, none⟩) (fun _ => by simp [add_plain])
        simp only [Nat.sub_zero, Nat.mul_one, List.drop_zero] at hs2
        rw [show (bytesV l).take j = bytesV (l.take j) by simp [bytesV, List.map_take]] at hs2
        have hcs := run_string_of (P := Tryz.prog) hs2 25 9 5 Tryz.underlying25 Tryz.underlying5 Tryz.underlying9
        have e13 : (((13 : UInt8).toNat : Int) == 13) = true := rfl
        generalize (⟨(l.take j).toArray⟩ : ByteArray) = X at *
        clear hs2 hin hx hm
        go_enter Tryz.func147, Tryz.ntmps147
        go_wp2_with (go_at_call 168; refine IX.out.mono ?_; rintro e w2 ⟨rfl, rfl⟩)
        go_ret3
        exact ⟨rfl, by first | exact Below.refl _ _ | exact below_drewN (Below.refl _ _) 1⟩
      · rw [if_pos (.inr fun h => h13 (Option.some.inj h))]
        have e13 : ((x.toNat : Int) == 13) = false := by rw [beq_eq_false_iff_ne]; intro h; exact h13 (UInt8.toNat_inj.1 (by have : (13 : UInt8).toNat = 13 := rfl; omega))
        have n13 : ((x.toNat : Int) != 13) = true := by rw [bne, e13]; rfl
        clear hin hx hm
        go_enter Tryz.func147, Tryz.ntmps147
        go_wp2_with (go_at_call 168; refine IX.out.mono ?_; rintro e w2 ⟨rfl, rfl⟩)
        go_ret3
        exact ⟨rfl, by first | exact Below.refl _ _ | exact below_drewN (Below.refl _ _) 1⟩
set_option maxHeartbeats 4000000 in
theorem rline6_any (A : Option Addr) (n c B : Nat) (l : List UInt8) (most : Nat) (w : World) (hin : SliceIn w B 1 A n c (bytesV l)) (hn : n ≤ 1000000000) (hmo : most ≤ 100000) :
    Calls Tryz.prog 99 #[.slice A n c, .int .i64 most] w fun e w' => e = .returned (.tuple #[.string ⟨(lineS most l).1.toArray⟩, .int .i64 (lineS most l).2.1, .int .i64 (lineS most l).2.2]) ∧ ∃ q, w' = w.drewN q := by
  have hll : l.length = n := by have := hin.1; rw [bytesV_length, Nat.mul_one] at this; exact this
  have hnc := hin.2.1
  have Hin := Lib.hid hin
  clear hin
  have cells : 0 < n → ∃ b0 off, A = some ⟨b0, off, none⟩ ∧ ∀ (W : World) (q : Nat), W = w.drewN q → ∀ (i : Nat) (x : UInt8), l[i]? = some x → W.cell? ⟨b0, off + i, none⟩ = some (.int .u8 x.toNat) := by
    intro h0
    obtain ⟨b0, off, e, _, hc⟩ := Hin.out.2.2.2 h0
    refine ⟨b0, off, e, ?_⟩
    intro W q hW i x hx
    subst hW
    exact hc i (.int .u8 x.toNat) (by rw [bytesV_get, hx]; rfl)
  obtain ⟨T, hT0⟩ : ∃ T, lineS most l = T := ⟨_, rfl⟩
  rw [hT0]
  have HT0 := Lib.hid hT0
  clear hT0
  go_enter Tryz.func99, Tryz.ntmps99
  go_wp2
  go_loopw [7] (fun v wr => ∃ i : Nat, v = .int .i64 i ∧ i ≤ n ∧ i ≤ most + 1 ∧ (∀ c ∈ l.take i, c ≠ 10) ∧ ∃ q, wr = w.drewN q) (fun v _ => n - (intOf v).toNat)
  case atStart => exact ⟨0, rfl, by omega, by omega, by simp, 0, rfl⟩
  case round =>
    obtain ⟨i, rfl, hin', hi2, hno, q, hq⟩ := hrel
    have Hno := Lib.hid hno
    clear hno
    have hq1 := Lib.hid hq
    clear hq
    by_cases hlt : i < n ∧ i ≤ most
    · obtain ⟨h1, h2⟩ := hlt
      obtain ⟨b0, off, rfl, cell⟩ := cells (by omega)
      clear cells
      obtain ⟨x, hx⟩ : ∃ x, l[i]? = some x := ⟨_, List.getElem?_eq_getElem (by omega)⟩
      have c0 := cell wr q hq1.out i x hx
      have j1 : (i : Int) < (n : Int) := by omega
      have j2 : (i : Int) ≤ (most : Int) := by omega
      by_cases h10 : x = 10
      · subst h10
        have hfi : (l.take (most + 1)).findIdx? (· == 10) = some i := fi10_hit (by rw [List.take_take, show min i (most + 1) = i by omega]; exact Hno.out) (by rw [List.getElem?_take, if_pos (by omega)]; exact hx)
        have e10 : (((10 : UInt8).toNat : Int) == 10) = true := rfl
        have n10 : (((10 : UInt8).toNat : Int) != 10) = false := rfl
        by_cases hia : i = 0
        · have hL : lineS most l = ([], 0, 10) := by unfold lineS; rw [hfi, hia]; simp
          have hi0 : ((i : Int) == 0) = true := by rw [beq_iff_eq]; omega
          have HT := Lib.hid (show T = ([], 0, 10) by rw [← HT0.out, hL])
          clear hfi hL hx cell HT0 hia
          go_wp2
          go_ret3
          exact ⟨by rw [HT.out]; rfl, q, hq1.out⟩
        · obtain ⟨j, rfl⟩ : ∃ j, i = j + 1 := ⟨i - 1, by omega⟩
          have hiab : (((j + 1 : Nat) : Int) == 0) = false := by rw [beq_eq_false_iff_ne]; omega
          obtain ⟨y, hy⟩ : ∃ y, l[j]? = some y := ⟨_, List.getElem?_eq_getElem (by omega)⟩
          have c1 := cell wr q hq1.out j y hy
          have hya : l[j + 1 - 1]? = some y := hy
          have i1 : ((j + 1 : Nat) : Int) - 1 = (j : Int) := by omega
          have i2 : (j : Int) < (n : Int) := by omega
          have i3 : (j : Int) ≤ (n : Int) := by omega
          have j3 : j ≤ c := by omega
          have j4 : j < n := by omega
          by_cases h13 : y = 13
          · subst h13
            have hL : lineS most l = (l.take j, j + 1 + 1, 0) := by
              unfold lineS; rw [hfi]; simp only
              rw [if_neg (by rintro (h | h); omega; exact h hya), show j + 1 - 1 = j by omega]
            have HT := Lib.hid (show T = (l.take j, j + 1 + 1, 0) by rw [← HT0.out, hL])
            have hs2 := Hin.out.sub (a := 0) (b := j) (by omega) (by omega) (some ⟨b0, off, none⟩) (fun _ => by simp [add_plain])
            simp only [Nat.mul_one, Nat.sub_zero, List.drop_zero] at hs2
            rw [show (bytesV l).take j = bytesV (l.take j) by simp [bytesV, List.map_take]] at hs2
            have hcs := run_string_of (P := Tryz.prog) (hs2.drewN q) 25 9 5 Tryz.underlying25 Tryz.underlying5 Tryz.underlying9
            rw [← hq1.out] at hcs
            have e13 : (((13 : UInt8).toNat : Int) == 13) = true := rfl
            obtain ⟨X, hX⟩ : ∃ X : ByteArray, (⟨(l.take j).toArray⟩ : ByteArray) = X := ⟨_, rfl⟩
            rw [hX] at hcs
            have HX := Lib.hid hX
            clear hX
            clear hs2 hfi hL hx cell hy hya HT0
            go_wp2
            go_ret3
            exact ⟨by rw [HT.out]; simp only [HX.out]; congr, q, hq1.out⟩
          · have hL : lineS most l = ([], 0, 10) := by
              unfold lineS; rw [hfi]; simp only
              rw [if_pos (.inr fun h => h13 (by rw [hya] at h; exact Option.some.inj h))]
            have e13 : ((y.toNat : Int) == 13) = false := by rw [beq_eq_false_iff_ne]; intro h; exact h13 (UInt8.toNat_inj.1 (by have : (13 : UInt8).toNat = 13 := rfl; omega))
            have n13 : ((y.toNat : Int) != 13) = true := by rw [bne, e13]; rfl
            have HT := Lib.hid (show T = ([], 0, 10) by rw [← HT0.out, hL])
            clear hfi hL hx cell hy hya h13 HT0
            go_wp2
            go_ret3
            exact ⟨by rw [HT.out]; rfl, q, hq1.out⟩
      · have e10 : ((x.toNat : Int) == 10) = false := by rw [beq_eq_false_iff_ne]; intro h; exact h10 (UInt8.toNat_inj.1 (by have : (10 : UInt8).toNat = 10 := rfl; omega))
        have n10 : ((x.toNat : Int) != 10) = true := by rw [bne, e10]; rfl
        have hno2 : ∀ c ∈ l.take (i + 1), c ≠ 10 := by
          intro c hc
          rw [List.take_add_one, hx] at hc
          rcases List.mem_append.1 hc with h | h
          · exact Hno.out c h
          · simp at h; subst h; exact h10
        have Hno2 := Lib.hid hno2
        clear hno2 hx cell Hno h10
        go_wp2
        go_roundw
        case rel => exact ⟨i + 1, by go_num, by omega, by omega, Hno2.out, q, hq1.out⟩
        case measure => simp [intOf]; omega
    · have hend : (∀ c ∈ l.take (most + 1), c ≠ 10) := by
        intro c hc
        refine Hno.out c ?_
        by_cases h : i = most + 1
        · rw [h]; exact hc
        · rw [List.take_of_length_le (by omega)]
          exact List.mem_of_mem_take hc
      have hfi := fi10_none hend
      have hways : (i < n ∧ ¬ (i : Int) ≤ (most : Int)) ∨ ¬ (i : Int) < (n : Int) := by omega
      replace HT0 := HT0.out
      have hL : lineS most l = if n ≤ most then ([], 0, 11) else ([], 0, 12) := by unfold lineS; rw [hfi, hll]
      rw [hL] at HT0
      clear hL hfi hend Hno cells
      by_cases h256 : n ≤ most
      · rw [if_pos h256] at HT0
        have HT := Lib.hid (show T = ([], 0, 11) by rw [← HT0])
        clear HT0
        have k1 : (n : Int) ≤ (most : Int) := by omega
        rcases hways with ⟨hk1, hk2⟩ | hk1
        all_goals
          go_wp2
          go_ret3
          exact ⟨by rw [HT.out]; rfl, q, hq1.out⟩
      · rw [if_neg h256] at HT0
        have HT := Lib.hid (show T = ([], 0, 12) by rw [← HT0])
        clear HT0
        have k1 : ¬ (n : Int) ≤ (most : Int) := by omega
        rcases hways with ⟨hk1, hk2⟩ | hk1
        all_goals
          go_wp2
          go_ret3
          exact ⟨by rw [HT.out]; rfl, q, hq1.out⟩
end Go.Proofs.YtniiadhhefgmcaaGreatDoor

/- Walks of layer 6: a version's last figure, the first blank; results in a cell and two slots. Condition: texts within 10^9 octets. -/
namespace Go.Proofs.YtniiadhhefgmcaaGreatDoor
open Go.RowKit IH
set_option maxRecDepth 100000
theorem results_cell_tmps {P : Program} {fn : Func} {t u v : Tmp} {ty : TypeId} (h : fn.results = #[.cell t ty, .tmp u, .tmp v]) (tmps : Array Value) (w : World) (a : Addr) (ht : tmps.getD t undef = .pointer (some a)) (x y z : Value) (hu : tmps.getD u undef = y) (hv : tmps.getD v undef = z)
    (hl : (loadVar ty a).run P w = .ok x w) : (results fn tmps).run P w = .ok (.tuple #[x, y, z]) w := by
  simp only [Array.getD_eq_getD_getElem?] at ht hu hv
  simp [results, h, ht, hu, hv, asAddr, hl]
theorem lit_eq (s : ByteArray) (l : List UInt8) : (s.toList == l) = decide (s.data.toList = l) := by rw [ByteArray.toList_eq, Bool.eq_iff_iff, beq_iff_eq, decide_eq_true_eq]
def zeroS : List Value := [.string ⟨#[]⟩, .string ⟨#[]⟩, .int .i64 0, .string ⟨#[]⟩, .int .i64 0]
theorem zeroS_sta : staC Sta.zero = zeroS := rfl
theorem staC_one (s : Sta) : ∀ v ∈ staC s, v.oneCell' = true := by
  intro v hv
  simp only [staC, List.mem_cons, List.not_mem_nil, or_false] at hv
  rcases hv with rfl | rfl | rfl | rfl | rfl <;> rfl
theorem tw_of {l : List UInt8} {k : Nat} (h : ∀ c ∈ l.take k, c ≠ 32) (_hk : k ≤ l.length) (he : l[k]? = some 32 ∨ k = l.length) : spW l = l.take k := by
  unfold spW
  conv => lhs; rw [← List.take_append_drop k l]
  rw [List.takeWhile_append_of_pos (by simpa using h)]
  have : (l.drop k).takeWhile (· != 32) = [] := by
    rcases he with he | he
    · have hlt : k < l.length := (List.getElem?_eq_some_iff.1 he).1
      rw [List.drop_eq_getElem_cons hlt]
      rw [List.getElem?_eq_getElem hlt] at he
      simp only [Option.some.injEq] at he
      rw [he]
      rfl
    · rw [List.drop_eq_nil_of_le (by omega)]
      rfl
  rw [this, List.append_nil]
theorem sminor_any (s : ByteArray) (w : World) :
    Calls Tryz.prog 149 #[.string s] w fun e w' => e = .returned (.tuple #[.int .i64 ((minorP s.data.toList).getD 0), .bool (minorP s.data.toList).isSome]) ∧ w = w' := by
  by_cases h0 : s.data.toList = http1 ++ [48]
  · have e0 : (s.toList == [72, 84, 84, 80, 47, 49, 46, 48]) = true := by rw [lit_eq]; exact decide_eq_true h0
    have hm : minorP s.data.toList = some 0 := by unfold minorP; rw [if_pos h0]
    rw [hm]
    clear h0 hm
    go_enter Tryz.func149, Tryz.ntmps149
    go_wp2
    go_ret2
    exact ⟨rfl, rfl⟩
  · have e0 : (s.toList == [72, 84, 84, 80, 47, 49, 46, 48]) = false := by rw [lit_eq]; exact decide_eq_false h0
    by_cases h1 : s.data.toList = http1 ++ [49]
    · have e1 : (s.toList == [72, 84, 84, 80, 47, 49, 46, 49]) = true := by rw [lit_eq]; exact decide_eq_true h1
      have hm : minorP s.data.toList = some 1 := by unfold minorP; rw [if_neg h0, if_pos h1]
      rw [hm]
      clear h0 h1 hm
      go_enter Tryz.func149, Tryz.ntmps149
      go_wp2
      go_ret2
      exact ⟨rfl, rfl⟩
    · have e1 : (s.toList == [72, 84, 84, 80, 47, 49, 46, 49]) = false := by rw [lit_eq]; exact decide_eq_false h1
      have hm : minorP s.data.toList = none := by unfold minorP; rw [if_neg h0, if_neg h1]
      rw [hm]
      clear h0 h1 hm
      go_enter Tryz.func149, Tryz.ntmps149
      go_wp2
      go_ret2
      exact ⟨rfl, rfl⟩
theorem rminor6_any (s : ByteArray) (w : World) :
    Calls Tryz.prog 100 #[.string s] w fun e w' => e = .returned (.int .i64 ((minorP s.data.toList).getD (-1))) ∧ w = w' := by
  by_cases h0 : s.data.toList = http1 ++ [48]
  · have e0 : (s.toList == [72, 84, 84, 80, 47, 49, 46, 48]) = true := by rw [lit_eq]; exact decide_eq_true h0
    have hm : minorP s.data.toList = some 0 := by unfold minorP; rw [if_pos h0]
    rw [hm]
    clear h0 hm
    go_enter Tryz.func100, Tryz.ntmps100
    go_wp2
    go_ret
    exact ⟨rfl, rfl⟩
  · have e0 : (s.toList == [72, 84, 84, 80, 47, 49, 46, 48]) = false := by rw [lit_eq]; exact decide_eq_false h0
    by_cases h1 : s.data.toList = http1 ++ [49]
    · have e1 : (s.toList == [72, 84, 84, 80, 47, 49, 46, 49]) = true := by rw [lit_eq]; exact decide_eq_true h1
      have hm : minorP s.data.toList = some 1 := by unfold minorP; rw [if_neg h0, if_pos h1]
      rw [hm]
      clear h0 h1 hm
      go_enter Tryz.func100, Tryz.ntmps100
      go_wp2
      go_ret
      exact ⟨rfl, rfl⟩
    · have e1 : (s.toList == [72, 84, 84, 80, 47, 49, 46, 49]) = false := by rw [lit_eq]; exact decide_eq_false h1
      have hm : minorP s.data.toList = none := by unfold minorP; rw [if_neg h0, if_neg h1]
      rw [hm]
      clear h0 h1 hm
      go_enter Tryz.func100, Tryz.ntmps100
      go_wp2
      go_ret
      exact ⟨rfl, rfl⟩
theorem space_any (s : ByteArray) (hs : s.size ≤ 1000000000) (w : World) :
    Calls Tryz.prog 101 #[.string s] w fun e w' => e = .returned (.int .i64 ((spW s.data.toList).length : Nat)) ∧ w = w' := by
  have hl := data_len s
  go_enter Tryz.func101, Tryz.ntmps101
  go_wp2
  go_loopw [3] (fun i wr => ∃ k : Nat, i = .int .i64 k ∧ k ≤ s.size ∧ (∀ c ∈ s.data.toList.take k, c ≠ 32) ∧ wr = w) (fun i _ => s.size - (intOf i).toNat)
  case atStart => exact ⟨0, rfl, by omega, by simp, rfl⟩
  case round =>
    obtain ⟨k, rfl, hk, hno, hwr⟩ := hrel
    subst wr
    have HN := Lib.hid hno
    clear hno
    by_cases hlt : k < s.size
    · have kI : (k : Int) < (s.size : Int) := by omega
      obtain ⟨c, hc⟩ : ∃ c, s[k] = c := ⟨_, rfl⟩
      have hg := get_data s k hlt
      rw [hc] at hg
      by_cases h32 : c = 32
      · subst h32
        have e1 : (((32 : UInt8).toNat : Int) == 32) = true := rfl
        have e2 : (((32 : UInt8).toNat : Int) != 32) = false := rfl
        have HT := Lib.hid (tw_of HN.out (by omega) (.inl hg))
        clear hg
        go_wp2
        go_ret
        exact ⟨by rw [HT.out, List.length_take, hl, Nat.min_eq_left (by omega)]; rfl, rfl⟩
      · have e1 : ((c.toNat : Int) == 32) = false := by rw [beq_eq_false_iff_ne]; intro h; exact h32 (UInt8.toNat_inj.1 (by have : (32 : UInt8).toNat = 32 := rfl; omega))
        have e2 : ((c.toNat : Int) != 32) = true := by rw [bne, e1]; rfl
        have HN2 : Hid (∀ c ∈ s.data.toList.take (k + 1), c ≠ 32) := Lib.hid (by
          intro d hd
          rw [List.take_add_one, hg] at hd
          rcases List.mem_append.1 hd with h | h
          · exact HN.out d h
          · simp at h; subst h; exact h32)
        clear hg h32 HN
        go_wp2
        go_roundw
        case rel => exact ⟨k + 1, by go_num, by omega, HN2.out, by first | trivial | rfl⟩
        case measure => simp [intOf]; omega
    · obtain rfl : k = s.size := by omega
      have HT := Lib.hid (tw_of HN.out (by omega) (.inr hl.symm))
      go_wp2
      go_ret
      exact ⟨by rw [HT.out, List.length_take, hl, Nat.min_self]; rfl, rfl⟩
end Go.Proofs.YtniiadhhefgmcaaGreatDoor

/- Walks of layer 6: a request's first line, by the code. Condition: at most 10^9 octets, the world's shape. -/
namespace Go.Proofs.YtniiadhhefgmcaaGreatDoor
open Go.RowKit IH
set_option maxRecDepth 100000
theorem lineS_len {most : Nat} {b : List UInt8} : (lineS most b).1.length ≤ b.length := by
  unfold lineS
  split
  · split <;> simp
  · split
    · simp
    · simp only [List.length_take]; omega
theorem pieces_len (c : UInt8) (l : List UInt8) : ∀ p ∈ pieces c l, p.length ≤ l.length := by
  induction l with
  | nil => simp [pieces]
  | cons x r ih =>
    unfold pieces
    split
    · intro p hp
      rcases List.mem_cons.1 hp with rfl | hp
      · simp
      · have := ih p hp; simp; omega
    · split
      · rename_i h0; exact absurd h0 (pieces_ne c r)
      · rename_i q qs h0
        rw [h0] at ih
        intro p hp
        rcases List.mem_cons.1 hp with rfl | hp
        · have := ih q (by simp); simp; omega
        · have := ih p (by simp [hp]); simp; omega
set_option maxHeartbeats 16000000 in
theorem sreq_any (b0 off n c : Nat) (l : List UInt8) (w : World) (hsh : w.ShapedOpen Tryz.prog) (hin : SliceIn w w.heap.size 1 (some ⟨b0, off, none⟩) n c (bytesV l)) (hn : n ≤ 1000000000) :
    Calls Tryz.prog 137 #[.slice (some ⟨b0, off, none⟩) n c] w fun e w' => e = .returned (.tuple #[.agg (staC (requestL l).1).toArray, .int .i64 (requestL l).2.1, .int .i64 (requestL l).2.2]) ∧ Below w.heap.size w w' := by
  obtain ⟨w1, hw1⟩ : ∃ W : World, w.alloc (.cells #[.string ⟨#[]⟩, .string ⟨#[]⟩, .int .i64 0, .string ⟨#[]⟩, .int .i64 0] 23) = W := ⟨_, rfl⟩
  have B1 : Hid (Below w.heap.size w w1) := Lib.hid (by rw [← hw1]; exact (Below.refl _ _).alloc (Nat.le_refl _) _)
  have Z1 : Hid (RowAt w1 w.heap.size 23 zeroS) := Lib.hid (by rw [← hw1]; exact RowAt.new w 23 zeroS)
  have HZi : Hid ((Tryz.prog.info? 23).map (·.size) = some 5) := Lib.hid (by kernel_rfl)
  have SL := sline_any b0 off n c w.heap.size l 8200 w1 (hin.below B1.out) hn (by omega)
  rw [show ((8200 : Nat) : Int) = 8200 from rfl] at SL
  obtain ⟨X, m, er, hL⟩ : ∃ X m e, lineS 8200 l = (X, m, e) := ⟨_, _, _, rfl⟩
  have hXl : X.length ≤ 1000000000 := by
    have h := lineS_len (most := 8200) (b := l)
    have hll : l.length = n := by have := hin.1; rw [bytesV_length] at this; omega
    rw [hL] at h
    exact Nat.le_trans h (by omega)
  rw [hL] at SL
  simp only at SL
  obtain ⟨R, hR⟩ : ∃ R, requestL l = R := ⟨_, rfl⟩
  rw [hR]
  have HR := Lib.hid hR
  have HL := Lib.hid hL
  obtain ⟨S, hS⟩ : ∃ S : ByteArray, (⟨X.toArray⟩ : ByteArray) = S := ⟨_, rfl⟩
  have hSd : S.data.toList = X := by rw [← hS]
  have hSz : S.size = X.length := by rw [← hS]; exact size_mk _
  rw [hS] at SL
  replace SL := Lib.hid SL
  clear hR hL hS hin
  have Hsh := Lib.hid hsh
  clear hsh
  by_cases he : er ≠ 0
  · have neb : (er != 0) = true := by rw [bne_iff_ne]; exact he
    have HT : Hid (R = (Sta.zero, 0, er)) := Lib.hid (by rw [← HR.out]; unfold requestL; rw [HL.out]; simp only; rw [if_pos he])
    go_enter Tryz.func137, Tryz.ntmps137
    go_wp2_with (first
      | (go_at_call 147; (with_reducible refine SL.out.mono ?_); rintro x2 w2 ⟨rfl, hb2⟩; have B2 := Lib.hid (below_step B1.out hb2); have Z2 := Lib.hid (Z1.out.below hb2 Z1.out.lt); clear hb2)
      | (refine wpList_store_row rfl 23 _ _ rfl w.heap.size _ zeroS zeroS rfl rfl Z2.out rfl HZi.out (by simp [zeroS, Value.oneCell']) ?_; intro wz hrz hoz; have RZ := Lib.hid hrz; have OZ := Lib.hid hoz; clear hrz hoz))
    exact bodyPost_ret (v := .tuple #[.agg (zeroS : List Value).toArray, .int .i64 0, .int .i64 er]) (results_cell_tmps Tryz.results137 _ wz ⟨w.heap.size, 0, none⟩ rfl (.agg (zeroS : List Value).toArray) (.int .i64 0) (.int .i64 er) rfl rfl (run_loadVar_mid wz w.heap.size 0 23 zeroS _ (rangeOf RZ.out) Tryz.underlying23 rfl HZi.out)) rfl ⟨by rw [HT.out]; rfl, OZ.out.below B2.out (Nat.le_refl _)⟩
  · obtain rfl : er = 0 := by omega
    have HQ : Hid (R = if (reqC X).2 ≠ 0 then (Sta.zero, 0, (reqC X).2) else ((reqC X).1, (m : Int), 0)) := Lib.hid (by rw [← HR.out]; unfold requestL; rw [HL.out]; simp)
    have SP := fun W (hW : Below w.heap.size w W) => Split1_any S 32 W (shaped_below Hsh.out hW) (by omega)
    rw [hSd] at SP
    clear he
    obtain ⟨P, hP⟩ : ∃ P, pieces 32 X = P := ⟨_, rfl⟩
    rw [hP] at SP
    by_cases h3 : P.length = 3
    · match P, h3 with
      | [a, b, c3], _ =>
        have hab : a.length ≤ 1000000000 ∧ b.length ≤ 1000000000 ∧ c3.length ≤ 1000000000 := by
          have h := pieces_len 32 X
          rw [hP] at h
          have h1 := h a (by simp)
          have h2 := h b (by simp)
          have h3 := h c3 (by simp)
          omega
        obtain ⟨ha, hb, hc⟩ := hab
        have TK := fun w => Token_any ⟨a.toArray⟩ (by rw [size_mk]; exact ha) w
        have VI := fun w => visible_big ⟨b.toArray⟩ (by rw [size_mk]; omega) w
        have MI := fun w => sminor_any ⟨c3.toArray⟩ w
        have hC : reqC X = if token a = true ∧ vis6 b = true then (match minorP c3 with
          | none => (Sta.zero, (10 : Int))
          | some m => if 32 < a.length ∨ 8000 < b.length then (Sta.zero, 12) else (⟨a, b, 0, [], m⟩, 0)) else (Sta.zero, 10) := by unfold reqC; rw [hP]; rfl
        have HC := Lib.hid hC
        obtain ⟨Sa, hSa⟩ : ∃ S : ByteArray, (⟨a.toArray⟩ : ByteArray) = S := ⟨_, rfl⟩
        obtain ⟨Sb, hSb⟩ : ∃ S : ByteArray, (⟨b.toArray⟩ : ByteArray) = S := ⟨_, rfl⟩
        obtain ⟨Sc, hSc⟩ : ∃ S : ByteArray, (⟨c3.toArray⟩ : ByteArray) = S := ⟨_, rfl⟩
        have zSa : Sa.size = a.length := by rw [← hSa]; exact size_mk _
        have zSb : Sb.size = b.length := by rw [← hSb]; exact size_mk _
        have dSa : Sa.data.toList = a := by rw [← hSa]
        have dSb : Sb.data.toList = b := by rw [← hSb]
        have dSc : Sc.data.toList = c3 := by rw [← hSc]
        have SP3 : ∀ W, Below w.heap.size w W → Calls Tryz.prog 150 #[.string S, .string ⟨#[32]⟩] W fun e w' => e = .returned (.slice (some ⟨W.heap.size, 0, none⟩) 3 3) ∧ RowAt w' W.heap.size 9 [.string Sa, .string Sb, .string Sc] ∧ Below W.heap.size W w' := fun W hW => by
          have h := SP W hW
          rw [show strsV [a, b, c3] = [.string Sa, .string Sb, .string Sc] by rw [← hSa, ← hSb, ← hSc]; rfl] at h
          exact h
        rw [hSa] at TK
        rw [hSb] at VI
        rw [hSc] at MI
        rw [dSa] at TK
        rw [dSb] at VI
        rw [dSc] at MI
        have HSa := Lib.hid hSa
        have HSb := Lib.hid hSb
        replace SP := Lib.hid SP3
        clear SP3 hP hC hSa hSb hSc dSa dSb dSc hSd hSz ha hb hc hXl
        cases ht : token a with
        | false =>
          rw [ht] at TK
          replace TK := Lib.hid TK
          replace VI := Lib.hid VI
          replace MI := Lib.hid MI
          have HT : Hid (R = (Sta.zero, 0, 10)) := Lib.hid (by rw [HQ.out, HC.out]; rw [ht]; simp)
          go_enter Tryz.func137, Tryz.ntmps137
          go_wp2_with (first
            | (go_at_call 147; (with_reducible refine SL.out.mono ?_); rintro x2 w2 ⟨rfl, hb2⟩; have B2 := Lib.hid (below_step B1.out hb2); have Z2 := Lib.hid (Z1.out.below hb2 Z1.out.lt); clear hb2)
            | (go_at_call 150; (with_reducible refine (SP.out _ B2.out).mono ?_); rintro x3 w3 ⟨rfl, hr3, hb3⟩; have B3 := Lib.hid (below_step B2.out hb3); have Z3 := Lib.hid (Z2.out.below hb3 Z2.out.lt); have d0 := hr3.cell (j := 0) rfl; have d1 := hr3.cell (j := 1) rfl; have d2 := hr3.cell (j := 2) rfl; have g3 : Hid (RowAt w3 w2.heap.size 9 [.string Sa, .string Sb, .string Sc]) := Lib.hid hr3; clear hr3 hb3)
            | (go_at_call 141; (with_reducible refine (TK.out _).mono ?_); rintro x4 w4 ⟨rfl, rfl⟩)
            | (refine wpList_store_row rfl 23 _ _ rfl w.heap.size _ zeroS zeroS rfl rfl Z3.out rfl HZi.out (by simp [zeroS, Value.oneCell']) ?_; intro wz hrz hoz; have RZ := Lib.hid hrz; have OZ := Lib.hid hoz; clear hrz hoz))
          exact bodyPost_ret (v := .tuple #[.agg (zeroS : List Value).toArray, .int .i64 0, .int .i64 10]) (results_cell_tmps Tryz.results137 _ wz ⟨w.heap.size, 0, none⟩ rfl (.agg (zeroS : List Value).toArray) (.int .i64 0) (.int .i64 10) rfl rfl (run_loadVar_mid wz w.heap.size 0 23 zeroS _ (rangeOf RZ.out) Tryz.underlying23 rfl HZi.out)) rfl ⟨by rw [HT.out]; rfl, OZ.out.below B3.out (Nat.le_refl _)⟩
        | true =>
          cases hv : vis6 b with
          | false =>
            rw [ht] at TK
            rw [hv] at VI
            replace TK := Lib.hid TK
            replace VI := Lib.hid VI
            replace MI := Lib.hid MI
            have HT : Hid (R = (Sta.zero, 0, 10)) := Lib.hid (by rw [HQ.out, HC.out]; rw [ht, hv]; simp)
            go_enter Tryz.func137, Tryz.ntmps137
            go_wp2_with (first
              | (go_at_call 147; (with_reducible refine SL.out.mono ?_); rintro x2 w2 ⟨rfl, hb2⟩; have B2 := Lib.hid (below_step B1.out hb2); have Z2 := Lib.hid (Z1.out.below hb2 Z1.out.lt); clear hb2)
              | (go_at_call 150; (with_reducible refine (SP.out _ B2.out).mono ?_); rintro x3 w3 ⟨rfl, hr3, hb3⟩; have B3 := Lib.hid (below_step B2.out hb3); have Z3 := Lib.hid (Z2.out.below hb3 Z2.out.lt); have d0 := hr3.cell (j := 0) rfl; have d1 := hr3.cell (j := 1) rfl; have d2 := hr3.cell (j := 2) rfl; have g3 : Hid (RowAt w3 w2.heap.size 9 [.string Sa, .string Sb, .string Sc]) := Lib.hid hr3; clear hr3 hb3)
              | (go_at_call 141; (with_reducible refine (TK.out _).mono ?_); rintro x4 w4 ⟨rfl, rfl⟩)
              | (go_at_call 142; (with_reducible refine (VI.out _).mono ?_); rintro x5 w5 ⟨rfl, rfl⟩)
              | (refine wpList_store_row rfl 23 _ _ rfl w.heap.size _ zeroS zeroS rfl rfl Z3.out rfl HZi.out (by simp [zeroS, Value.oneCell']) ?_; intro wz hrz hoz; have RZ := Lib.hid hrz; have OZ := Lib.hid hoz; clear hrz hoz))
            exact bodyPost_ret (v := .tuple #[.agg (zeroS : List Value).toArray, .int .i64 0, .int .i64 10]) (results_cell_tmps Tryz.results137 _ wz ⟨w.heap.size, 0, none⟩ rfl (.agg (zeroS : List Value).toArray) (.int .i64 0) (.int .i64 10) rfl rfl (run_loadVar_mid wz w.heap.size 0 23 zeroS _ (rangeOf RZ.out) Tryz.underlying23 rfl HZi.out)) rfl ⟨by rw [HT.out]; rfl, OZ.out.below B3.out (Nat.le_refl _)⟩
          | true =>
            cases hm : minorP c3 with
            | none =>
              rw [ht] at TK
              rw [hv] at VI
              rw [hm] at MI
              simp only [Option.getD_none, Option.isSome_none] at MI
              replace TK := Lib.hid TK
              replace VI := Lib.hid VI
              replace MI := Lib.hid MI
              have HT : Hid (R = (Sta.zero, 0, 10)) := Lib.hid (by rw [HQ.out, HC.out]; rw [ht, hv, hm]; simp)
              go_enter Tryz.func137, Tryz.ntmps137
              go_wp2_with (first
                | (go_at_call 147; (with_reducible refine SL.out.mono ?_); rintro x2 w2 ⟨rfl, hb2⟩; have B2 := Lib.hid (below_step B1.out hb2); have Z2 := Lib.hid (Z1.out.below hb2 Z1.out.lt); clear hb2)
                | (go_at_call 150; (with_reducible refine (SP.out _ B2.out).mono ?_); rintro x3 w3 ⟨rfl, hr3, hb3⟩; have B3 := Lib.hid (below_step B2.out hb3); have Z3 := Lib.hid (Z2.out.below hb3 Z2.out.lt); have d0 := hr3.cell (j := 0) rfl; have d1 := hr3.cell (j := 1) rfl; have d2 := hr3.cell (j := 2) rfl; have g3 : Hid (RowAt w3 w2.heap.size 9 [.string Sa, .string Sb, .string Sc]) := Lib.hid hr3; clear hr3 hb3)
                | (go_at_call 141; (with_reducible refine (TK.out _).mono ?_); rintro x4 w4 ⟨rfl, rfl⟩)
                | (go_at_call 142; (with_reducible refine (VI.out _).mono ?_); rintro x5 w5 ⟨rfl, rfl⟩)
                | (go_at_call 149; (with_reducible refine (MI.out _).mono ?_); rintro x6 w6 ⟨rfl, rfl⟩)
                | (refine wpList_store_row rfl 23 _ _ rfl w.heap.size _ zeroS zeroS rfl rfl Z3.out rfl HZi.out (by simp [zeroS, Value.oneCell']) ?_; intro wz hrz hoz; have RZ := Lib.hid hrz; have OZ := Lib.hid hoz; clear hrz hoz))
              exact bodyPost_ret (v := .tuple #[.agg (zeroS : List Value).toArray, .int .i64 0, .int .i64 10]) (results_cell_tmps Tryz.results137 _ wz ⟨w.heap.size, 0, none⟩ rfl (.agg (zeroS : List Value).toArray) (.int .i64 0) (.int .i64 10) rfl rfl (run_loadVar_mid wz w.heap.size 0 23 zeroS _ (rangeOf RZ.out) Tryz.underlying23 rfl HZi.out)) rfl ⟨by rw [HT.out]; rfl, OZ.out.below B3.out (Nat.le_refl _)⟩
            | some mi =>
              rw [ht] at TK
              rw [hv] at VI
              rw [hm] at MI
              simp only [Option.getD_some, Option.isSome_some] at MI
              replace TK := Lib.hid TK
              replace VI := Lib.hid VI
              replace MI := Lib.hid MI
              by_cases h32 : 32 < a.length
              · have k1 : (32 : Int) < (Sa.size : Int) := by omega
                have HT : Hid (R = (Sta.zero, 0, 12)) := Lib.hid (by rw [HQ.out, HC.out]; rw [ht, hv, hm]; simp [h32])
                go_enter Tryz.func137, Tryz.ntmps137
                go_wp2_with (first
                  | (go_at_call 147; (with_reducible refine SL.out.mono ?_); rintro x2 w2 ⟨rfl, hb2⟩; have B2 := Lib.hid (below_step B1.out hb2); have Z2 := Lib.hid (Z1.out.below hb2 Z1.out.lt); clear hb2)
                  | (go_at_call 150; (with_reducible refine (SP.out _ B2.out).mono ?_); rintro x3 w3 ⟨rfl, hr3, hb3⟩; have B3 := Lib.hid (below_step B2.out hb3); have Z3 := Lib.hid (Z2.out.below hb3 Z2.out.lt); have d0 := hr3.cell (j := 0) rfl; have d1 := hr3.cell (j := 1) rfl; have d2 := hr3.cell (j := 2) rfl; have g3 : Hid (RowAt w3 w2.heap.size 9 [.string Sa, .string Sb, .string Sc]) := Lib.hid hr3; clear hr3 hb3)
                  | (go_at_call 141; (with_reducible refine (TK.out _).mono ?_); rintro x4 w4 ⟨rfl, rfl⟩)
                  | (go_at_call 142; (with_reducible refine (VI.out _).mono ?_); rintro x5 w5 ⟨rfl, rfl⟩)
                  | (go_at_call 149; (with_reducible refine (MI.out _).mono ?_); rintro x6 w6 ⟨rfl, rfl⟩)
                  | (refine wpList_store_row rfl 23 _ _ rfl w.heap.size _ zeroS zeroS rfl rfl Z3.out rfl HZi.out (by simp [zeroS, Value.oneCell']) ?_; intro wz hrz hoz; have RZ := Lib.hid hrz; have OZ := Lib.hid hoz; clear hrz hoz))
                exact bodyPost_ret (v := .tuple #[.agg (zeroS : List Value).toArray, .int .i64 0, .int .i64 12]) (results_cell_tmps Tryz.results137 _ wz ⟨w.heap.size, 0, none⟩ rfl (.agg (zeroS : List Value).toArray) (.int .i64 0) (.int .i64 12) rfl rfl (run_loadVar_mid wz w.heap.size 0 23 zeroS _ (rangeOf RZ.out) Tryz.underlying23 rfl HZi.out)) rfl ⟨by rw [HT.out]; rfl, OZ.out.below B3.out (Nat.le_refl _)⟩
              · have k1 : ¬ (32 : Int) < (Sa.size : Int) := by omega
                by_cases h80 : 8000 < b.length
                · have k2 : (8000 : Int) < (Sb.size : Int) := by omega
                  have HT : Hid (R = (Sta.zero, 0, 12)) := Lib.hid (by rw [HQ.out, HC.out]; rw [ht, hv, hm]; simp [h80])
                  go_enter Tryz.func137, Tryz.ntmps137
                  go_wp2_with (first
                    | (go_at_call 147; (with_reducible refine SL.out.mono ?_); rintro x2 w2 ⟨rfl, hb2⟩; have B2 := Lib.hid (below_step B1.out hb2); have Z2 := Lib.hid (Z1.out.below hb2 Z1.out.lt); clear hb2)
                    | (go_at_call 150; (with_reducible refine (SP.out _ B2.out).mono ?_); rintro x3 w3 ⟨rfl, hr3, hb3⟩; have B3 := Lib.hid (below_step B2.out hb3); have Z3 := Lib.hid (Z2.out.below hb3 Z2.out.lt); have d0 := hr3.cell (j := 0) rfl; have d1 := hr3.cell (j := 1) rfl; have d2 := hr3.cell (j := 2) rfl; have g3 : Hid (RowAt w3 w2.heap.size 9 [.string Sa, .string Sb, .string Sc]) := Lib.hid hr3; clear hr3 hb3)
                    | (go_at_call 141; (with_reducible refine (TK.out _).mono ?_); rintro x4 w4 ⟨rfl, rfl⟩)
                    | (go_at_call 142; (with_reducible refine (VI.out _).mono ?_); rintro x5 w5 ⟨rfl, rfl⟩)
                    | (go_at_call 149; (with_reducible refine (MI.out _).mono ?_); rintro x6 w6 ⟨rfl, rfl⟩)
                    | (refine wpList_store_row rfl 23 _ _ rfl w.heap.size _ zeroS zeroS rfl rfl Z3.out rfl HZi.out (by simp [zeroS, Value.oneCell']) ?_; intro wz hrz hoz; have RZ := Lib.hid hrz; have OZ := Lib.hid hoz; clear hrz hoz))
                  exact bodyPost_ret (v := .tuple #[.agg (zeroS : List Value).toArray, .int .i64 0, .int .i64 12]) (results_cell_tmps Tryz.results137 _ wz ⟨w.heap.size, 0, none⟩ rfl (.agg (zeroS : List Value).toArray) (.int .i64 0) (.int .i64 12) rfl rfl (run_loadVar_mid wz w.heap.size 0 23 zeroS _ (rangeOf RZ.out) Tryz.underlying23 rfl HZi.out)) rfl ⟨by rw [HT.out]; rfl, OZ.out.below B3.out (Nat.le_refl _)⟩
                · have k2 : ¬ (8000 : Int) < (Sb.size : Int) := by omega
                  have HT : Hid (R = (⟨a, b, 0, [], mi⟩, (m : Int), 0)) := Lib.hid (by rw [HQ.out, HC.out]; rw [ht, hv, hm]; simp [h32, h80])
                  go_enter Tryz.func137, Tryz.ntmps137
                  go_wp2_with (first
                    | (go_at_call 147; (with_reducible refine SL.out.mono ?_); rintro x2 w2 ⟨rfl, hb2⟩; have B2 := Lib.hid (below_step B1.out hb2); have Z2 := Lib.hid (Z1.out.below hb2 Z1.out.lt); clear hb2)
                    | (go_at_call 150; (with_reducible refine (SP.out _ B2.out).mono ?_); rintro x3 w3 ⟨rfl, hr3, hb3⟩; have B3 := Lib.hid (below_step B2.out hb3); have Z3 := Lib.hid (Z2.out.below hb3 Z2.out.lt); have d0 := hr3.cell (j := 0) rfl; have d1 := hr3.cell (j := 1) rfl; have d2 := hr3.cell (j := 2) rfl; have g3 : Hid (RowAt w3 w2.heap.size 9 [.string Sa, .string Sb, .string Sc]) := Lib.hid hr3; clear hr3 hb3)
                    | (go_at_call 141; (with_reducible refine (TK.out _).mono ?_); rintro x4 w4 ⟨rfl, rfl⟩)
                    | (go_at_call 142; (with_reducible refine (VI.out _).mono ?_); rintro x5 w5 ⟨rfl, rfl⟩)
                    | (go_at_call 149; (with_reducible refine (MI.out _).mono ?_); rintro x6 w6 ⟨rfl, rfl⟩))
                  refine wp_region_plan (fun W => Below w.heap.size w W ∧ (∃ cs, cs.length = 5 ∧ RowAt W w.heap.size 23 cs) ∧ RowAt W w2.heap.size 9 [.string Sa, .string Sb, .string Sc]) [(0, true), (1, true), (2, true), (3, true), (4, true), (5, true), (6, true), (7, true), (8, true), (9, false), (10, true), (11, true)] (by kernel_rfl) (by kernel_rfl) rfl (by kernel_rfl) (⟨below_drewN B3.out 1, ⟨zeroS, rfl, Z3.out.below (below_drewN (Below.refl _ _) 1) Z3.out.lt⟩, g3.out.below (below_drewN (Below.refl _ _) 1) g3.out.lt⟩) ?_
                  intro w1 hH
                  iterate 9
                    refine plan_take (v := ?_) rfl (by rfl) ?_ ?_
                    rotate_left
                    · intro w2 hSw
                      have z0 := hSw.2.2.cell (j := 0) rfl
                      have z1 := hSw.2.2.cell (j := 1) rfl
                      clear hSw
                      go_simp
                      try with_reducible rfl
                    try simp only [Act.put, List.setIfInBounds_toArray, List.set_cons_zero, List.set_cons_succ]
                  refine plan_move rfl (by rfl) (fun K hK => ?_)
                  obtain ⟨cs9, hc9, hr9⟩ := hH.out.2.1
                  refine wp_store_row 23 _ _ rfl w.heap.size _ [.string Sa, .string Sb, .int .i64 0, .string ⟨#[]⟩, .int .i64 mi] cs9 rfl rfl hr9 (by rw [hc9]; rfl) HZi.out (by simp [Value.oneCell']) ?_
                  intro wz hrz hoz
                  refine hK.out _ _ (⟨hoz.below hH.out.1 (Nat.le_refl _), ⟨_, rfl, hrz⟩, hH.out.2.2.only hoz (by have := Z2.out.lt; omega)⟩) ?_
                  have RZ := Lib.hid hrz
                  have OZ := Lib.hid hoz
                  have BZ := Lib.hid hH.out.1
                  clear hH hK K hrz hoz hr9 hc9
                  intro hH
                  try simp only [Act.put]
                  iterate 2
                    refine plan_take (v := ?_) rfl (by rfl) ?_ ?_
                    rotate_left
                    · intro w2 hSw
                      have z0 := hSw.2.2.cell (j := 0) rfl
                      have z1 := hSw.2.2.cell (j := 1) rfl
                      clear hSw
                      go_simp
                      try with_reducible rfl
                    try simp only [Act.put, List.setIfInBounds_toArray, List.set_cons_zero, List.set_cons_succ]
                  refine plan_done ?_
                  go_wp2_with fail
                  exact bodyPost_ret (v := .tuple #[.agg ([.string Sa, .string Sb, .int .i64 0, .string ⟨#[]⟩, .int .i64 mi] : List Value).toArray, .int .i64 m, .int .i64 0]) (results_cell_tmps Tryz.results137 _ wz ⟨w.heap.size, 0, none⟩ rfl (.agg ([.string Sa, .string Sb, .int .i64 0, .string ⟨#[]⟩, .int .i64 mi] : List Value).toArray) (.int .i64 m) (.int .i64 0) rfl rfl (run_loadVar_mid wz w.heap.size 0 23 [.string Sa, .string Sb, .int .i64 0, .string ⟨#[]⟩, .int .i64 mi] _ (rangeOf RZ.out) Tryz.underlying23 rfl HZi.out)) rfl ⟨by rw [HT.out, ← HSa.out, ← HSb.out]; rfl, OZ.out.below BZ.out (Nat.le_refl _)⟩
    · have p3 : ((P.length : Int) != 3) = true := by rw [bne_iff_ne]; omega
      have HT : Hid (R = (Sta.zero, 0, 10)) := Lib.hid (by
        rw [HQ.out]
        have hC : reqC X = (Sta.zero, 10) := by
          unfold reqC
          rw [hP]
          match P, h3 with
          | [], _ => rfl
          | [_], _ => rfl
          | [_, _], _ => rfl
          | [_, _, _], h => exact absurd rfl h
          | _ :: _ :: _ :: _ :: _, _ => rfl
        rw [hC]; simp)
      replace SP := Lib.hid SP
      obtain ⟨k, hk⟩ : ∃ k, P.length = k := ⟨_, rfl⟩
      rw [hk] at SP p3
      clear hP hSd hSz hXl hk h3
      go_enter Tryz.func137, Tryz.ntmps137
      go_wp2_with (first
        | (go_at_call 147; (with_reducible refine SL.out.mono ?_); rintro x2 w2 ⟨rfl, hb2⟩; have B2 := Lib.hid (below_step B1.out hb2); have Z2 := Lib.hid (Z1.out.below hb2 Z1.out.lt); clear hb2)
        | (go_at_call 150; (with_reducible refine (SP.out _ B2.out).mono ?_); rintro x3 w3 ⟨rfl, hr3, hb3⟩; have B3 := Lib.hid (below_step B2.out hb3); have Z3 := Lib.hid (Z2.out.below hb3 Z2.out.lt); clear hr3 hb3)
        | (refine wpList_store_row rfl 23 _ _ rfl w.heap.size _ zeroS zeroS rfl rfl Z3.out rfl HZi.out (by simp [zeroS, Value.oneCell']) ?_; intro wz hrz hoz; have RZ := Lib.hid hrz; have OZ := Lib.hid hoz; clear hrz hoz))
      exact bodyPost_ret (v := .tuple #[.agg (zeroS : List Value).toArray, .int .i64 0, .int .i64 10]) (results_cell_tmps Tryz.results137 _ wz ⟨w.heap.size, 0, none⟩ rfl (.agg (zeroS : List Value).toArray) (.int .i64 0) (.int .i64 10) rfl rfl (run_loadVar_mid wz w.heap.size 0 23 zeroS _ (rangeOf RZ.out) Tryz.underlying23 rfl HZi.out)) rfl ⟨by rw [HT.out]; rfl, OZ.out.below B3.out (Nat.le_refl _)⟩
end Go.Proofs.YtniiadhhefgmcaaGreatDoor

/- Walks of layer 6: a response's first line, by the code. Condition: at most 10^9 octets, the world's shape. -/
namespace Go.Proofs.YtniiadhhefgmcaaGreatDoor
open Go.RowKit IH
set_option maxRecDepth 100000
theorem splitK_sp {k : Nat} {s : List UInt8} (h : 32 ∈ s) : Lib.splitK [32] 0 (k + 1) s = spW s :: Lib.splitK [32] 0 k (spR s) := by
  obtain ⟨e, ha⟩ := sp_cut h
  have hi : Lib.index (spW s ++ 32 :: spR s) [32] = ((spW s).length : Nat) := by rw [Lib.index_one, indexByte_mid 32 (spW s) (spR s) ha]
  have hd : (spW s ++ 32 :: spR s).drop ((spW s).length + 1) = spR s := by rw [← List.drop_drop, List.drop_left']; rfl; rfl
  have hne : (Lib.index (spW s ++ 32 :: spR s) [32] == -1) = false := by rw [hi, beq_eq_false_iff_ne]; omega
  conv => lhs; rw [e]; unfold Lib.splitK
  rw [hne, hi]
  simp only [Bool.false_eq_true, if_false, Int.toNat_natCast, Nat.add_zero]
  rw [show (spW s).length + [(32 : UInt8)].length = (spW s).length + 1 from rfl, hd, List.take_left']
  rfl
theorem splitK_no {k : Nat} {s : List UInt8} (h : 32 ∉ s) : Lib.splitK [32] 0 k s = [s] := by
  cases k with
  | zero => rfl
  | succ k =>
    have hi : Lib.index s [32] = -1 := by rw [Lib.index_one]; exact indexByte_no 32 s (fun x hx e => h (e ▸ hx))
    unfold Lib.splitK
    rw [hi]
    simp
theorem sp_two {s : List UInt8} (h1 : 32 ∈ s) (h2 : 32 ∈ spR s) : 2 ≤ s.length ∧ Lib.splitK [32] 0 2 s = [spW s, spW (spR s), spR (spR s)] := by
  refine ⟨?_, by rw [splitK_sp h1, splitK_sp h2]; rfl⟩
  have e1 := congrArg List.length (sp_cut h1).1
  have e2 := congrArg List.length (sp_cut h2).1
  simp only [List.length_append, List.length_cons] at e1 e2
  omega
theorem sp_less {k : Nat} (hk : k ≤ 2) {s : List UInt8} (h : ¬ (32 ∈ s ∧ 32 ∈ spR s)) : (Lib.splitK [32] 0 k s).length ≠ 3 := by
  by_cases h1 : 32 ∈ s
  · have h2 : 32 ∉ spR s := fun h2 => h ⟨h1, h2⟩
    cases k with
    | zero => simp [Lib.splitK]
    | succ k => rw [splitK_sp h1, splitK_no h2]; simp
  · rw [splitK_no h1]; simp
theorem sp_lens (s : List UInt8) : (spW s).length ≤ s.length ∧ (spR s).length ≤ s.length := by
  unfold spW spR
  have h1 : (s.takeWhile (· != 32)).length ≤ s.length := (List.takeWhile_sublist _).length_le
  have h2 : (s.dropWhile (· != 32)).length ≤ s.length := (List.dropWhile_sublist _).length_le
  rw [List.length_drop]
  omega
theorem SplitN3_yes (s : ByteArray) (w : World) (hsh : w.ShapedOpen Tryz.prog) (hs : s.size ≤ 1000000000) (h1 : 32 ∈ s.data.toList) (h2 : 32 ∈ spR s.data.toList) :
    Calls Tryz.prog 148 #[.string s, .string ⟨#[32]⟩, .int .i64 3] w fun e w' => ∃ c, 3 ≤ c ∧ e = .returned (.slice (some ⟨w.heap.size, 0, none⟩) 3 c) ∧ RowAt w' w.heap.size 9 (strsV [spW s.data.toList, spW (spR s.data.toList), spR (spR s.data.toList)]) ∧ Below w.heap.size w w' := by
  refine (Tryz.strings_SplitN_shaped s ⟨#[32]⟩ 3 w hsh (by omega) (by show 1 ≤ 1; omega) (by omega) (by omega)).mono ?_
  rintro e w' ⟨rfl, rfl⟩
  obtain ⟨h3, h4⟩ := sp_two h1 h2
  rw [data_len] at h3
  obtain ⟨k, hk⟩ : ∃ k, min 3 (s.size + 1) - 1 = k := ⟨_, rfl⟩
  obtain rfl : k = 2 := by omega
  rw [hk]
  have hd := Lib.splitB_data ⟨#[32]⟩ 0 2 s
  rw [show (⟨#[32]⟩ : ByteArray).data.toList = [32] from rfl, h4] at hd
  obtain ⟨Q, hQ⟩ : ∃ Q, Lib.splitB ⟨#[32]⟩ 0 2 s = Q := ⟨_, rfl⟩
  rw [hQ] at hd ⊢
  have hlen : Q.length = 3 := by have := congrArg List.length hd; rw [List.length_map] at this; exact this
  have hst : Q.map Value.string = strsV [spW s.data.toList, spW (spR s.data.toList), spR (spR s.data.toList)] := by
    rw [← hd]
    unfold strsV
    rw [List.map_map]
    apply List.map_congr_left
    intro x _
    simp
  refine ⟨_, ?_, by rw [hlen], ?_, (Below.refl _ _).alloc (Nat.le_refl _) _⟩
  rotate_left
  · refine ⟨_, 0, 0, heap_alloc_new w _, ?_, by simp⟩
    unfold Lib.cellsOf
    rw [hst, List.take_left']
    rfl
  · omega
theorem SplitN3_no (s : ByteArray) (w : World) (hsh : w.ShapedOpen Tryz.prog) (hs : s.size ≤ 1000000000) (h : ¬ (32 ∈ s.data.toList ∧ 32 ∈ spR s.data.toList)) :
    Calls Tryz.prog 148 #[.string s, .string ⟨#[32]⟩, .int .i64 3] w fun e w' => ∃ k c, k ≠ 3 ∧ e = .returned (.slice (some ⟨w.heap.size, 0, none⟩) k c) ∧ Below w.heap.size w w' := by
  refine (Tryz.strings_SplitN_shaped s ⟨#[32]⟩ 3 w hsh (by omega) (by show 1 ≤ 1; omega) (by omega) (by omega)).mono ?_
  rintro e w' ⟨rfl, rfl⟩
  refine ⟨_, _, ?_, rfl, (Below.refl _ _).alloc (Nat.le_refl _) _⟩
  have hd := congrArg List.length (Lib.splitB_data ⟨#[32]⟩ 0 (min 3 (s.size + 1) - 1) s)
  rw [List.length_map, show (⟨#[32]⟩ : ByteArray).data.toList = [32] from rfl] at hd
  rw [hd]
  exact sp_less (by omega) h
set_option maxHeartbeats 16000000 in
theorem sresp_any (b0 off n c : Nat) (l : List UInt8) (w : World) (hsh : w.ShapedOpen Tryz.prog) (hin : SliceIn w w.heap.size 1 (some ⟨b0, off, none⟩) n c (bytesV l)) (hn : n ≤ 1000000000) :
    Calls Tryz.prog 136 #[.slice (some ⟨b0, off, none⟩) n c] w fun e w' => e = .returned (.tuple #[.agg (staC (responseL l).1).toArray, .int .i64 (responseL l).2.1, .int .i64 (responseL l).2.2]) ∧ Below w.heap.size w w' := by
  obtain ⟨w1, hw1⟩ : ∃ W : World, w.alloc (.cells #[.string ⟨#[]⟩, .string ⟨#[]⟩, .int .i64 0, .string ⟨#[]⟩, .int .i64 0] 23) = W := ⟨_, rfl⟩
  have B1 : Hid (Below w.heap.size w w1) := Lib.hid (by rw [← hw1]; exact (Below.refl _ _).alloc (Nat.le_refl _) _)
  have Z1 : Hid (RowAt w1 w.heap.size 23 zeroS) := Lib.hid (by rw [← hw1]; exact RowAt.new w 23 zeroS)
  have HZi : Hid ((Tryz.prog.info? 23).map (·.size) = some 5) := Lib.hid (by kernel_rfl)
  have SL := sline_any b0 off n c w.heap.size l 300 w1 (hin.below B1.out) hn (by omega)
  rw [show ((300 : Nat) : Int) = 300 from rfl] at SL
  obtain ⟨X, m, er, hL⟩ : ∃ X m e, lineS 300 l = (X, m, e) := ⟨_, _, _, rfl⟩
  have hXl : X.length ≤ 1000000000 := by
    have h := lineS_len (most := 300) (b := l)
    have hll : l.length = n := by have := hin.1; rw [bytesV_length] at this; omega
    rw [hL] at h
    exact Nat.le_trans h (by omega)
  rw [hL] at SL
  simp only at SL
  obtain ⟨R, hR⟩ : ∃ R, responseL l = R := ⟨_, rfl⟩
  rw [hR]
  have HR := Lib.hid hR
  have HL := Lib.hid hL
  obtain ⟨S, hS⟩ : ∃ S : ByteArray, (⟨X.toArray⟩ : ByteArray) = S := ⟨_, rfl⟩
  have hSd : S.data.toList = X := by rw [← hS]
  have hSz : S.size = X.length := by rw [← hS]; exact size_mk _
  rw [hS] at SL
  replace SL := Lib.hid SL
  clear hR hL hS hin
  have Hsh := Lib.hid hsh
  clear hsh
  by_cases he : er ≠ 0
  · have neb : (er != 0) = true := by rw [bne_iff_ne]; exact he
    have HT : Hid (R = (Sta.zero, 0, er)) := Lib.hid (by rw [← HR.out]; unfold responseL; rw [HL.out]; simp only; rw [if_pos he])
    go_enter Tryz.func136, Tryz.ntmps136
    go_wp2_with (first
      | (go_at_call 147; (with_reducible refine SL.out.mono ?_); rintro x2 w2 ⟨rfl, hb2⟩; have B2 := Lib.hid (below_step B1.out hb2); have Z2 := Lib.hid (Z1.out.below hb2 Z1.out.lt); clear hb2)
      | (refine wpList_store_row rfl 23 _ _ rfl w.heap.size _ zeroS zeroS rfl rfl Z2.out rfl HZi.out (by simp [zeroS, Value.oneCell']) ?_; intro wz hrz hoz; have RZ := Lib.hid hrz; have OZ := Lib.hid hoz; clear hrz hoz))
    exact bodyPost_ret (v := .tuple #[.agg (zeroS : List Value).toArray, .int .i64 0, .int .i64 er]) (results_cell_tmps Tryz.results136 _ wz ⟨w.heap.size, 0, none⟩ rfl (.agg (zeroS : List Value).toArray) (.int .i64 0) (.int .i64 er) rfl rfl (run_loadVar_mid wz w.heap.size 0 23 zeroS _ (rangeOf RZ.out) Tryz.underlying23 rfl HZi.out)) rfl ⟨by rw [HT.out]; rfl, OZ.out.below B2.out (Nat.le_refl _)⟩
  · obtain rfl : er = 0 := by omega
    have HQ : Hid (R = if (respC X).2 ≠ 0 then (Sta.zero, 0, (respC X).2) else ((respC X).1, (m : Int), 0)) := Lib.hid (by rw [← HR.out]; unfold responseL; rw [HL.out]; simp)
    clear he
    have zX := sp_lens X
    have zY := sp_lens (spR X)
    by_cases h3 : 32 ∈ X ∧ 32 ∈ spR X
    · have SP := fun W (hW : Below w.heap.size w W) => SplitN3_yes S W (shaped_below Hsh.out hW) (by omega) (by rw [hSd]; exact h3.1) (by rw [hSd]; exact h3.2)
      rw [hSd] at SP
      have hC : respC X = (match minorP (spW X) with
        | none => (Sta.zero, (10 : Int))
        | some m => if (numR 10 999 (spW (spR X))).2 ≠ 0 ∨ (spW (spR X)).length ≠ 3 ∨ (numR 10 999 (spW (spR X))).1 < 100 ∨ value (spR (spR X)) = false then (Sta.zero, 10)
          else if 200 < (spR (spR X)).length then (Sta.zero, 12) else (⟨[], [], (numR 10 999 (spW (spR X))).1, spR (spR X), m⟩, 0)) := by unfold respC; rw [if_pos h3]; rfl
      obtain ⟨a, ha⟩ : ∃ a, spW X = a := ⟨_, rfl⟩
      obtain ⟨b, hb⟩ : ∃ a, spW (spR X) = a := ⟨_, rfl⟩
      obtain ⟨c3, hc⟩ : ∃ a, spR (spR X) = a := ⟨_, rfl⟩
      rw [ha, hb, hc] at SP
      rw [ha, hb, hc] at hC
      rw [ha] at zX
      rw [hb, hc] at zY
      have MI := fun w => sminor_any ⟨a.toArray⟩ w
      have NU := fun w => Number_any ⟨b.toArray⟩ (by rw [size_mk]; omega) 999 (by omega) (by omega) w
      have VA := fun w => Value_any ⟨c3.toArray⟩ (by rw [size_mk]; omega) w
      have HC := Lib.hid hC
      obtain ⟨Sa, hSa⟩ : ∃ S : ByteArray, (⟨a.toArray⟩ : ByteArray) = S := ⟨_, rfl⟩
      obtain ⟨Sb, hSb⟩ : ∃ S : ByteArray, (⟨b.toArray⟩ : ByteArray) = S := ⟨_, rfl⟩
      obtain ⟨Sc, hSc⟩ : ∃ S : ByteArray, (⟨c3.toArray⟩ : ByteArray) = S := ⟨_, rfl⟩
      have zSb : Sb.size = b.length := by rw [← hSb]; exact size_mk _
      have zSc : Sc.size = c3.length := by rw [← hSc]; exact size_mk _
      have dSa : Sa.data.toList = a := by rw [← hSa]
      have dSb : Sb.data.toList = b := by rw [← hSb]
      have dSc : Sc.data.toList = c3 := by rw [← hSc]
      have SP3 : ∀ W, Below w.heap.size w W → Calls Tryz.prog 148 #[.string S, .string ⟨#[32]⟩, .int .i64 3] W fun e w' => ∃ c, 3 ≤ c ∧ e = .returned (.slice (some ⟨W.heap.size, 0, none⟩) 3 c) ∧ RowAt w' W.heap.size 9 [.string Sa, .string Sb, .string Sc] ∧ Below W.heap.size W w' := fun W hW => by
        have h := SP W hW
        rw [show strsV [a, b, c3] = [.string Sa, .string Sb, .string Sc] by rw [← hSa, ← hSb, ← hSc]; rfl] at h
        exact h
      rw [hSa, dSa] at MI
      rw [hSb, dSb] at NU
      rw [hSc, dSc] at VA
      obtain ⟨nv, ne, hN⟩ : ∃ x y, numR 10 999 b = (x, y) := ⟨_, _, rfl⟩
      rw [hN] at NU hC
      simp only at NU
      have HN := Lib.hid hN
      have HSc := Lib.hid hSc
      replace SP := Lib.hid SP3
      replace NU := Lib.hid NU
      clear SP3 hC hSa hSb hSc dSa dSb dSc hSd hSz hXl zX zY ha hb hc h3 hN
      cases hm : minorP a with
      | none =>
        rw [hm] at MI
        simp only [Option.getD_none, Option.isSome_none] at MI
        replace MI := Lib.hid MI
        replace VA := Lib.hid VA
        have HT : Hid (R = (Sta.zero, 0, 10)) := Lib.hid (by rw [HQ.out, HC.out, HN.out]; rw [hm]; simp)
        go_enter Tryz.func136, Tryz.ntmps136
        go_wp2_with (first
          | (go_at_call 147; (with_reducible refine SL.out.mono ?_); rintro x2 w2 ⟨rfl, hb2⟩; have B2 := Lib.hid (below_step B1.out hb2); have Z2 := Lib.hid (Z1.out.below hb2 Z1.out.lt); clear hb2)
          | (go_at_call 148; (with_reducible refine (SP.out _ B2.out).mono ?_); rintro x3 w3 ⟨c9, hc9, rfl, hr3, hb3⟩; have B3 := Lib.hid (below_step B2.out hb3); have Z3 := Lib.hid (Z2.out.below hb3 Z2.out.lt); have d0 := hr3.cell (j := 0) rfl; have d1 := hr3.cell (j := 1) rfl; have d2 := hr3.cell (j := 2) rfl; have g3 : Hid (RowAt w3 w2.heap.size 9 [.string Sa, .string Sb, .string Sc]) := Lib.hid hr3; clear hr3 hb3)
          | (go_at_call 149; (with_reducible refine (MI.out _).mono ?_); rintro x6 w6 ⟨rfl, rfl⟩)
          | (go_at_call 135; (with_reducible refine (NU.out _).mono ?_); rintro x4 w4 ⟨rfl, hb4⟩; have B4 := Lib.hid (below_step B3.out hb4); have Z4 := Lib.hid (Z3.out.below hb4 Z3.out.lt); have g4 := g3.out.below hb4 g3.out.lt; have d3 := g4.cell (j := 1) rfl; have d4 := g4.cell (j := 2) rfl; replace g4 := Lib.hid g4; clear hb4 d0 d1 d2)
          | (refine wpList_store_row rfl 23 _ _ rfl w.heap.size _ zeroS zeroS rfl rfl Z4.out rfl HZi.out (by simp [zeroS, Value.oneCell']) ?_; intro wz hrz hoz; have RZ := Lib.hid hrz; have OZ := Lib.hid hoz; clear hrz hoz))
        exact bodyPost_ret (v := .tuple #[.agg (zeroS : List Value).toArray, .int .i64 0, .int .i64 10]) (results_cell_tmps Tryz.results136 _ wz ⟨w.heap.size, 0, none⟩ rfl (.agg (zeroS : List Value).toArray) (.int .i64 0) (.int .i64 10) rfl rfl (run_loadVar_mid wz w.heap.size 0 23 zeroS _ (rangeOf RZ.out) Tryz.underlying23 rfl HZi.out)) rfl ⟨by rw [HT.out]; rfl, OZ.out.below B4.out (Nat.le_refl _)⟩
      | some mi =>
        rw [hm] at MI
        simp only [Option.getD_some, Option.isSome_some] at MI
        replace MI := Lib.hid MI
        by_cases hne : ne = 0
        · subst hne
          by_cases hl3 : b.length = 3
          · have l3 : ((Sb.size : Int) == 3) = true := by rw [beq_iff_eq]; omega
            have l3n : ((Sb.size : Int) != 3) = false := by rw [bne, l3]; rfl
            by_cases h100 : nv < 100
            · replace VA := Lib.hid VA
              have HT : Hid (R = (Sta.zero, 0, 10)) := Lib.hid (by rw [HQ.out, HC.out, HN.out]; rw [hm]; simp [h100])
              go_enter Tryz.func136, Tryz.ntmps136
              go_wp2_with (first
                | (go_at_call 147; (with_reducible refine SL.out.mono ?_); rintro x2 w2 ⟨rfl, hb2⟩; have B2 := Lib.hid (below_step B1.out hb2); have Z2 := Lib.hid (Z1.out.below hb2 Z1.out.lt); clear hb2)
                | (go_at_call 148; (with_reducible refine (SP.out _ B2.out).mono ?_); rintro x3 w3 ⟨c9, hc9, rfl, hr3, hb3⟩; have B3 := Lib.hid (below_step B2.out hb3); have Z3 := Lib.hid (Z2.out.below hb3 Z2.out.lt); have d0 := hr3.cell (j := 0) rfl; have d1 := hr3.cell (j := 1) rfl; have d2 := hr3.cell (j := 2) rfl; have g3 : Hid (RowAt w3 w2.heap.size 9 [.string Sa, .string Sb, .string Sc]) := Lib.hid hr3; clear hr3 hb3)
                | (go_at_call 149; (with_reducible refine (MI.out _).mono ?_); rintro x6 w6 ⟨rfl, rfl⟩)
                | (go_at_call 135; (with_reducible refine (NU.out _).mono ?_); rintro x4 w4 ⟨rfl, hb4⟩; have B4 := Lib.hid (below_step B3.out hb4); have Z4 := Lib.hid (Z3.out.below hb4 Z3.out.lt); have g4 := g3.out.below hb4 g3.out.lt; have d3 := g4.cell (j := 1) rfl; have d4 := g4.cell (j := 2) rfl; replace g4 := Lib.hid g4; clear hb4 d0 d1 d2)
                | (refine wpList_store_row rfl 23 _ _ rfl w.heap.size _ zeroS zeroS rfl rfl Z4.out rfl HZi.out (by simp [zeroS, Value.oneCell']) ?_; intro wz hrz hoz; have RZ := Lib.hid hrz; have OZ := Lib.hid hoz; clear hrz hoz))
              exact bodyPost_ret (v := .tuple #[.agg (zeroS : List Value).toArray, .int .i64 0, .int .i64 10]) (results_cell_tmps Tryz.results136 _ wz ⟨w.heap.size, 0, none⟩ rfl (.agg (zeroS : List Value).toArray) (.int .i64 0) (.int .i64 10) rfl rfl (run_loadVar_mid wz w.heap.size 0 23 zeroS _ (rangeOf RZ.out) Tryz.underlying23 rfl HZi.out)) rfl ⟨by rw [HT.out]; rfl, OZ.out.below B4.out (Nat.le_refl _)⟩
            · cases hv : value c3 with
              | false =>
                rw [hv] at VA
                replace VA := Lib.hid VA
                have HT : Hid (R = (Sta.zero, 0, 10)) := Lib.hid (by rw [HQ.out, HC.out, HN.out]; rw [hm, hv]; simp)
                go_enter Tryz.func136, Tryz.ntmps136
                go_wp2_with (first
                  | (go_at_call 147; (with_reducible refine SL.out.mono ?_); rintro x2 w2 ⟨rfl, hb2⟩; have B2 := Lib.hid (below_step B1.out hb2); have Z2 := Lib.hid (Z1.out.below hb2 Z1.out.lt); clear hb2)
                  | (go_at_call 148; (with_reducible refine (SP.out _ B2.out).mono ?_); rintro x3 w3 ⟨c9, hc9, rfl, hr3, hb3⟩; have B3 := Lib.hid (below_step B2.out hb3); have Z3 := Lib.hid (Z2.out.below hb3 Z2.out.lt); have d0 := hr3.cell (j := 0) rfl; have d1 := hr3.cell (j := 1) rfl; have d2 := hr3.cell (j := 2) rfl; have g3 : Hid (RowAt w3 w2.heap.size 9 [.string Sa, .string Sb, .string Sc]) := Lib.hid hr3; clear hr3 hb3)
                  | (go_at_call 149; (with_reducible refine (MI.out _).mono ?_); rintro x6 w6 ⟨rfl, rfl⟩)
                  | (go_at_call 135; (with_reducible refine (NU.out _).mono ?_); rintro x4 w4 ⟨rfl, hb4⟩; have B4 := Lib.hid (below_step B3.out hb4); have Z4 := Lib.hid (Z3.out.below hb4 Z3.out.lt); have g4 := g3.out.below hb4 g3.out.lt; have d3 := g4.cell (j := 1) rfl; have d4 := g4.cell (j := 2) rfl; replace g4 := Lib.hid g4; clear hb4 d0 d1 d2)
                  | (go_at_call 143; (with_reducible refine (VA.out _).mono ?_); rintro x5 w5 ⟨rfl, hb5⟩; have B5 := Lib.hid (below_step B4.out hb5); have Z5 := Lib.hid (Z4.out.below hb5 Z4.out.lt); have d5 := (g4.out.below hb5 g4.out.lt).cell (j := 2) rfl; clear hb5)
                  | (refine wpList_store_row rfl 23 _ _ rfl w.heap.size _ zeroS zeroS rfl rfl Z5.out rfl HZi.out (by simp [zeroS, Value.oneCell']) ?_; intro wz hrz hoz; have RZ := Lib.hid hrz; have OZ := Lib.hid hoz; clear hrz hoz))
                exact bodyPost_ret (v := .tuple #[.agg (zeroS : List Value).toArray, .int .i64 0, .int .i64 10]) (results_cell_tmps Tryz.results136 _ wz ⟨w.heap.size, 0, none⟩ rfl (.agg (zeroS : List Value).toArray) (.int .i64 0) (.int .i64 10) rfl rfl (run_loadVar_mid wz w.heap.size 0 23 zeroS _ (rangeOf RZ.out) Tryz.underlying23 rfl HZi.out)) rfl ⟨by rw [HT.out]; rfl, OZ.out.below B5.out (Nat.le_refl _)⟩
              | true =>
                rw [hv] at VA
                replace VA := Lib.hid VA
                by_cases h200 : 200 < c3.length
                · have k2 : (200 : Int) < (Sc.size : Int) := by omega
                  have HT : Hid (R = (Sta.zero, 0, 12)) := Lib.hid (by rw [HQ.out, HC.out, HN.out]; rw [hm, hv]; simp [h100, hl3, h200])
                  go_enter Tryz.func136, Tryz.ntmps136
                  go_wp2_with (first
                    | (go_at_call 147; (with_reducible refine SL.out.mono ?_); rintro x2 w2 ⟨rfl, hb2⟩; have B2 := Lib.hid (below_step B1.out hb2); have Z2 := Lib.hid (Z1.out.below hb2 Z1.out.lt); clear hb2)
                    | (go_at_call 148; (with_reducible refine (SP.out _ B2.out).mono ?_); rintro x3 w3 ⟨c9, hc9, rfl, hr3, hb3⟩; have B3 := Lib.hid (below_step B2.out hb3); have Z3 := Lib.hid (Z2.out.below hb3 Z2.out.lt); have d0 := hr3.cell (j := 0) rfl; have d1 := hr3.cell (j := 1) rfl; have d2 := hr3.cell (j := 2) rfl; have g3 : Hid (RowAt w3 w2.heap.size 9 [.string Sa, .string Sb, .string Sc]) := Lib.hid hr3; clear hr3 hb3)
                    | (go_at_call 149; (with_reducible refine (MI.out _).mono ?_); rintro x6 w6 ⟨rfl, rfl⟩)
                    | (go_at_call 135; (with_reducible refine (NU.out _).mono ?_); rintro x4 w4 ⟨rfl, hb4⟩; have B4 := Lib.hid (below_step B3.out hb4); have Z4 := Lib.hid (Z3.out.below hb4 Z3.out.lt); have g4 := g3.out.below hb4 g3.out.lt; have d3 := g4.cell (j := 1) rfl; have d4 := g4.cell (j := 2) rfl; replace g4 := Lib.hid g4; clear hb4 d0 d1 d2)
                    | (go_at_call 143; (with_reducible refine (VA.out _).mono ?_); rintro x5 w5 ⟨rfl, hb5⟩; have B5 := Lib.hid (below_step B4.out hb5); have Z5 := Lib.hid (Z4.out.below hb5 Z4.out.lt); have d5 := (g4.out.below hb5 g4.out.lt).cell (j := 2) rfl; clear hb5)
                    | (refine wpList_store_row rfl 23 _ _ rfl w.heap.size _ zeroS zeroS rfl rfl Z5.out rfl HZi.out (by simp [zeroS, Value.oneCell']) ?_; intro wz hrz hoz; have RZ := Lib.hid hrz; have OZ := Lib.hid hoz; clear hrz hoz))
                  exact bodyPost_ret (v := .tuple #[.agg (zeroS : List Value).toArray, .int .i64 0, .int .i64 12]) (results_cell_tmps Tryz.results136 _ wz ⟨w.heap.size, 0, none⟩ rfl (.agg (zeroS : List Value).toArray) (.int .i64 0) (.int .i64 12) rfl rfl (run_loadVar_mid wz w.heap.size 0 23 zeroS _ (rangeOf RZ.out) Tryz.underlying23 rfl HZi.out)) rfl ⟨by rw [HT.out]; rfl, OZ.out.below B5.out (Nat.le_refl _)⟩
                · have k2 : ¬ (200 : Int) < (Sc.size : Int) := by omega
                  have HT : Hid (R = (⟨[], [], nv, c3, mi⟩, (m : Int), 0)) := Lib.hid (by rw [HQ.out, HC.out, HN.out]; rw [hm, hv]; simp [h100, hl3, h200])
                  go_enter Tryz.func136, Tryz.ntmps136
                  go_wp2_with (first
                    | (go_at_call 147; (with_reducible refine SL.out.mono ?_); rintro x2 w2 ⟨rfl, hb2⟩; have B2 := Lib.hid (below_step B1.out hb2); have Z2 := Lib.hid (Z1.out.below hb2 Z1.out.lt); clear hb2)
                    | (go_at_call 148; (with_reducible refine (SP.out _ B2.out).mono ?_); rintro x3 w3 ⟨c9, hc9, rfl, hr3, hb3⟩; have B3 := Lib.hid (below_step B2.out hb3); have Z3 := Lib.hid (Z2.out.below hb3 Z2.out.lt); have d0 := hr3.cell (j := 0) rfl; have d1 := hr3.cell (j := 1) rfl; have d2 := hr3.cell (j := 2) rfl; have g3 : Hid (RowAt w3 w2.heap.size 9 [.string Sa, .string Sb, .string Sc]) := Lib.hid hr3; clear hr3 hb3)
                    | (go_at_call 149; (with_reducible refine (MI.out _).mono ?_); rintro x6 w6 ⟨rfl, rfl⟩)
                    | (go_at_call 135; (with_reducible refine (NU.out _).mono ?_); rintro x4 w4 ⟨rfl, hb4⟩; have B4 := Lib.hid (below_step B3.out hb4); have Z4 := Lib.hid (Z3.out.below hb4 Z3.out.lt); have g4 := g3.out.below hb4 g3.out.lt; have d3 := g4.cell (j := 1) rfl; have d4 := g4.cell (j := 2) rfl; replace g4 := Lib.hid g4; clear hb4 d0 d1 d2)
                    | (go_at_call 143; (with_reducible refine (VA.out _).mono ?_); rintro x5 w5 ⟨rfl, hb5⟩; have B5 := Lib.hid (below_step B4.out hb5); have Z5 := Lib.hid (Z4.out.below hb5 Z4.out.lt); have d5 := (g4.out.below hb5 g4.out.lt).cell (j := 2) rfl; clear hb5)
                    | (refine wpList_store_row rfl 23 _ _ rfl w.heap.size _ [.string ⟨#[]⟩, .string ⟨#[]⟩, .int .i64 nv, .string Sc, .int .i64 mi] zeroS rfl rfl Z5.out rfl HZi.out (by simp [Value.oneCell']) ?_; intro wz hrz hoz; have RZ := Lib.hid hrz; have OZ := Lib.hid hoz; clear hrz hoz))
                  exact bodyPost_ret (v := .tuple #[.agg ([.string ⟨#[]⟩, .string ⟨#[]⟩, .int .i64 nv, .string Sc, .int .i64 mi] : List Value).toArray, .int .i64 m, .int .i64 0]) (results_cell_tmps Tryz.results136 _ wz ⟨w.heap.size, 0, none⟩ rfl (.agg ([.string ⟨#[]⟩, .string ⟨#[]⟩, .int .i64 nv, .string Sc, .int .i64 mi] : List Value).toArray) (.int .i64 m) (.int .i64 0) rfl rfl (run_loadVar_mid wz w.heap.size 0 23 [.string ⟨#[]⟩, .string ⟨#[]⟩, .int .i64 nv, .string Sc, .int .i64 mi] _ (rangeOf RZ.out) Tryz.underlying23 rfl HZi.out)) rfl ⟨by rw [HT.out, ← HSc.out]; rfl, OZ.out.below B5.out (Nat.le_refl _)⟩
          · have l3 : ((Sb.size : Int) == 3) = false := by rw [beq_eq_false_iff_ne]; omega
            have l3n : ((Sb.size : Int) != 3) = true := by rw [bne, l3]; rfl
            replace VA := Lib.hid VA
            have HT : Hid (R = (Sta.zero, 0, 10)) := Lib.hid (by rw [HQ.out, HC.out, HN.out]; rw [hm]; simp [hl3])
            go_enter Tryz.func136, Tryz.ntmps136
            go_wp2_with (first
              | (go_at_call 147; (with_reducible refine SL.out.mono ?_); rintro x2 w2 ⟨rfl, hb2⟩; have B2 := Lib.hid (below_step B1.out hb2); have Z2 := Lib.hid (Z1.out.below hb2 Z1.out.lt); clear hb2)
              | (go_at_call 148; (with_reducible refine (SP.out _ B2.out).mono ?_); rintro x3 w3 ⟨c9, hc9, rfl, hr3, hb3⟩; have B3 := Lib.hid (below_step B2.out hb3); have Z3 := Lib.hid (Z2.out.below hb3 Z2.out.lt); have d0 := hr3.cell (j := 0) rfl; have d1 := hr3.cell (j := 1) rfl; have d2 := hr3.cell (j := 2) rfl; have g3 : Hid (RowAt w3 w2.heap.size 9 [.string Sa, .string Sb, .string Sc]) := Lib.hid hr3; clear hr3 hb3)
              | (go_at_call 149; (with_reducible refine (MI.out _).mono ?_); rintro x6 w6 ⟨rfl, rfl⟩)
              | (go_at_call 135; (with_reducible refine (NU.out _).mono ?_); rintro x4 w4 ⟨rfl, hb4⟩; have B4 := Lib.hid (below_step B3.out hb4); have Z4 := Lib.hid (Z3.out.below hb4 Z3.out.lt); have g4 := g3.out.below hb4 g3.out.lt; have d3 := g4.cell (j := 1) rfl; have d4 := g4.cell (j := 2) rfl; replace g4 := Lib.hid g4; clear hb4 d0 d1 d2)
              | (refine wpList_store_row rfl 23 _ _ rfl w.heap.size _ zeroS zeroS rfl rfl Z4.out rfl HZi.out (by simp [zeroS, Value.oneCell']) ?_; intro wz hrz hoz; have RZ := Lib.hid hrz; have OZ := Lib.hid hoz; clear hrz hoz))
            exact bodyPost_ret (v := .tuple #[.agg (zeroS : List Value).toArray, .int .i64 0, .int .i64 10]) (results_cell_tmps Tryz.results136 _ wz ⟨w.heap.size, 0, none⟩ rfl (.agg (zeroS : List Value).toArray) (.int .i64 0) (.int .i64 10) rfl rfl (run_loadVar_mid wz w.heap.size 0 23 zeroS _ (rangeOf RZ.out) Tryz.underlying23 rfl HZi.out)) rfl ⟨by rw [HT.out]; rfl, OZ.out.below B4.out (Nat.le_refl _)⟩
        · have nen : (ne != 0) = true := by rw [bne_iff_ne]; exact hne
          replace VA := Lib.hid VA
          have HT : Hid (R = (Sta.zero, 0, 10)) := Lib.hid (by rw [HQ.out, HC.out, HN.out]; rw [hm]; simp [hne])
          go_enter Tryz.func136, Tryz.ntmps136
          go_wp2_with (first
            | (go_at_call 147; (with_reducible refine SL.out.mono ?_); rintro x2 w2 ⟨rfl, hb2⟩; have B2 := Lib.hid (below_step B1.out hb2); have Z2 := Lib.hid (Z1.out.below hb2 Z1.out.lt); clear hb2)
            | (go_at_call 148; (with_reducible refine (SP.out _ B2.out).mono ?_); rintro x3 w3 ⟨c9, hc9, rfl, hr3, hb3⟩; have B3 := Lib.hid (below_step B2.out hb3); have Z3 := Lib.hid (Z2.out.below hb3 Z2.out.lt); have d0 := hr3.cell (j := 0) rfl; have d1 := hr3.cell (j := 1) rfl; have d2 := hr3.cell (j := 2) rfl; have g3 : Hid (RowAt w3 w2.heap.size 9 [.string Sa, .string Sb, .string Sc]) := Lib.hid hr3; clear hr3 hb3)
            | (go_at_call 149; (with_reducible refine (MI.out _).mono ?_); rintro x6 w6 ⟨rfl, rfl⟩)
            | (go_at_call 135; (with_reducible refine (NU.out _).mono ?_); rintro x4 w4 ⟨rfl, hb4⟩; have B4 := Lib.hid (below_step B3.out hb4); have Z4 := Lib.hid (Z3.out.below hb4 Z3.out.lt); have g4 := g3.out.below hb4 g3.out.lt; have d3 := g4.cell (j := 1) rfl; have d4 := g4.cell (j := 2) rfl; replace g4 := Lib.hid g4; clear hb4 d0 d1 d2)
            | (refine wpList_store_row rfl 23 _ _ rfl w.heap.size _ zeroS zeroS rfl rfl Z4.out rfl HZi.out (by simp [zeroS, Value.oneCell']) ?_; intro wz hrz hoz; have RZ := Lib.hid hrz; have OZ := Lib.hid hoz; clear hrz hoz))
          exact bodyPost_ret (v := .tuple #[.agg (zeroS : List Value).toArray, .int .i64 0, .int .i64 10]) (results_cell_tmps Tryz.results136 _ wz ⟨w.heap.size, 0, none⟩ rfl (.agg (zeroS : List Value).toArray) (.int .i64 0) (.int .i64 10) rfl rfl (run_loadVar_mid wz w.heap.size 0 23 zeroS _ (rangeOf RZ.out) Tryz.underlying23 rfl HZi.out)) rfl ⟨by rw [HT.out]; rfl, OZ.out.below B4.out (Nat.le_refl _)⟩
    · have SP := Lib.hid (fun W (hW : Below w.heap.size w W) => SplitN3_no S W (shaped_below Hsh.out hW) (by omega) (by rw [hSd]; exact h3))
      have HT : Hid (R = (Sta.zero, 0, 10)) := Lib.hid (by
        rw [HQ.out]
        have hC : respC X = (Sta.zero, 10) := by unfold respC; rw [if_neg h3]
        rw [hC]; simp)
      clear hSd hSz hXl zX zY h3
      go_enter Tryz.func136, Tryz.ntmps136
      go_wp2_with (first
        | (go_at_call 147; (with_reducible refine SL.out.mono ?_); rintro x2 w2 ⟨rfl, hb2⟩; have B2 := Lib.hid (below_step B1.out hb2); have Z2 := Lib.hid (Z1.out.below hb2 Z1.out.lt); clear hb2)
        | (go_at_call 148; (with_reducible refine (SP.out _ B2.out).mono ?_); rintro x3 w3 ⟨k, c9, hk, rfl, hb3⟩; have p3 : ((k : Int) != 3) = true := (by rw [bne_iff_ne]; omega); have B3 := Lib.hid (below_step B2.out hb3); have Z3 := Lib.hid (Z2.out.below hb3 Z2.out.lt); clear hb3 hk)
        | (refine wpList_store_row rfl 23 _ _ rfl w.heap.size _ zeroS zeroS rfl rfl Z3.out rfl HZi.out (by simp [zeroS, Value.oneCell']) ?_; intro wz hrz hoz; have RZ := Lib.hid hrz; have OZ := Lib.hid hoz; clear hrz hoz))
      exact bodyPost_ret (v := .tuple #[.agg (zeroS : List Value).toArray, .int .i64 0, .int .i64 10]) (results_cell_tmps Tryz.results136 _ wz ⟨w.heap.size, 0, none⟩ rfl (.agg (zeroS : List Value).toArray) (.int .i64 0) (.int .i64 10) rfl rfl (run_loadVar_mid wz w.heap.size 0 23 zeroS _ (rangeOf RZ.out) Tryz.underlying23 rfl HZi.out)) rfl ⟨by rw [HT.out]; rfl, OZ.out.below B3.out (Nat.le_refl _)⟩
end Go.Proofs.YtniiadhhefgmcaaGreatDoor

/- Walks of layer 6: a request's first line, by the document. Condition: at most 10^9 octets. -/
namespace Go.Proofs.YtniiadhhefgmcaaGreatDoor
open Go.RowKit IH
set_option maxRecDepth 100000
set_option maxHeartbeats 16000000 in
theorem rreq6_any (A : Option Addr) (n c : Nat) (l : List UInt8) (w : World) (hin : SliceIn w w.heap.size 1 A n c (bytesV l)) (hn : n ≤ 1000000000) :
    Calls Tryz.prog 69 #[.slice A n c] w fun e w' => e = .returned (.tuple #[.agg (staC (requestL l).1).toArray, .int .i64 (requestL l).2.1, .int .i64 (requestL l).2.2]) ∧ Below w.heap.size w w' := by
  obtain ⟨w1, hw1⟩ : ∃ W : World, w.alloc (.cells #[.string ⟨#[]⟩, .string ⟨#[]⟩, .int .i64 0, .string ⟨#[]⟩, .int .i64 0] 23) = W := ⟨_, rfl⟩
  have B1 : Hid (Below w.heap.size w w1) := Lib.hid (by rw [← hw1]; exact (Below.refl _ _).alloc (Nat.le_refl _) _)
  have Z1 : Hid (RowAt w1 w.heap.size 23 zeroS) := Lib.hid (by rw [← hw1]; exact RowAt.new w 23 zeroS)
  have HZi : Hid ((Tryz.prog.info? 23).map (·.size) = some 5) := Lib.hid (by kernel_rfl)
  have SL := rline6_any A n c w.heap.size l 8200 w1 (hin.below B1.out) hn (by omega)
  rw [show ((8200 : Nat) : Int) = 8200 from rfl] at SL
  obtain ⟨X, m, er, hL⟩ : ∃ X m e, lineS 8200 l = (X, m, e) := ⟨_, _, _, rfl⟩
  have hXl : X.length ≤ 1000000000 := by
    have h := lineS_len (most := 8200) (b := l)
    have hll : l.length = n := by have := hin.1; rw [bytesV_length] at this; omega
    rw [hL] at h
    exact Nat.le_trans h (by omega)
  rw [hL] at SL
  simp only at SL
  obtain ⟨R, hR⟩ : ∃ R, requestL l = R := ⟨_, rfl⟩
  rw [hR]
  have HR := Lib.hid hR
  have HL := Lib.hid hL
  obtain ⟨S, hS⟩ : ∃ S : ByteArray, (⟨X.toArray⟩ : ByteArray) = S := ⟨_, rfl⟩
  have hSd : S.data.toList = X := by rw [← hS]
  have hSz : S.size = X.length := by rw [← hS]; exact size_mk _
  rw [hS] at SL
  replace SL := Lib.hid SL
  clear hR hL hS hin
  by_cases he : er ≠ 0
  · have neb : (er != 0) = true := by rw [bne_iff_ne]; exact he
    have HT : Hid (R = (Sta.zero, 0, er)) := Lib.hid (by rw [← HR.out]; unfold requestL; rw [HL.out]; simp only; rw [if_pos he])
    go_enter Tryz.func69, Tryz.ntmps69
    go_wp2_with (first
      | (go_at_call 99; (with_reducible refine SL.out.mono ?_); rintro x2 w2 ⟨rfl, q2, hq2⟩; have hb2 : Below w1.heap.size w1 w2 := (by rw [hq2]; exact below_drewN (Below.refl _ _) _); clear hq2; have B2 := Lib.hid (below_step B1.out hb2); have Z2 := Lib.hid (Z1.out.below hb2 Z1.out.lt); clear hb2)
      | (refine wpList_store_row rfl 23 _ _ rfl w.heap.size _ zeroS zeroS rfl rfl Z2.out rfl HZi.out (by simp [zeroS, Value.oneCell']) ?_; intro wz hrz hoz; have RZ := Lib.hid hrz; have OZ := Lib.hid hoz; clear hrz hoz))
    exact bodyPost_ret (v := .tuple #[.agg (zeroS : List Value).toArray, .int .i64 0, .int .i64 er]) (results_cell_tmps Tryz.results69 _ wz ⟨w.heap.size, 0, none⟩ rfl (.agg (zeroS : List Value).toArray) (.int .i64 0) (.int .i64 er) rfl rfl (run_loadVar_mid wz w.heap.size 0 23 zeroS _ (rangeOf RZ.out) Tryz.underlying23 rfl HZi.out)) rfl ⟨by rw [HT.out]; rfl, OZ.out.below B2.out (Nat.le_refl _)⟩
  · obtain rfl : er = 0 := by omega
    have HQ : Hid (R = if (reqR X).2 ≠ 0 then (Sta.zero, 0, (reqR X).2) else ((reqR X).1, (m : Int), 0)) := Lib.hid (by rw [← HR.out]; unfold requestL; rw [HL.out, ← req_eq]; simp)
    have SC := fun w => space_any S (by omega) w
    rw [hSd] at SC
    clear he
    by_cases h1 : 32 ∈ X
    · have hcut := sp_cut h1
      obtain ⟨a, ha⟩ : ∃ a, spW X = a := ⟨_, rfl⟩
      obtain ⟨t, ht⟩ : ∃ a, spR X = a := ⟨_, rfl⟩
      have hC : reqR X = if 32 ∈ t then
        (match minorP (spR t) with
        | none => (Sta.zero, (10 : Int))
        | some m => if token a = true ∧ vis6 (spW t) = true then
            (if 32 < a.length ∨ 8000 < (spW t).length then (Sta.zero, 12) else (⟨a, spW t, 0, [], m⟩, 0)) else (Sta.zero, 10)) else (Sta.zero, 10) := by
        unfold reqR
        rw [ha, ht]
        by_cases h : 32 ∈ t
        · rw [if_pos ⟨h1, h⟩, if_pos h]; rfl
        · rw [if_neg (fun hh => h hh.2), if_neg h]
      rw [ha, ht] at hcut
      rw [ha] at SC
      obtain ⟨i1, hi1⟩ : ∃ i, a.length = i := ⟨_, rfl⟩
      rw [hi1] at SC
      obtain ⟨T, hT⟩ : ∃ T, S.extract (i1 + 1) S.size = T := ⟨_, rfl⟩
      obtain ⟨M, hM⟩ : ∃ T, S.extract 0 i1 = T := ⟨_, rfl⟩
      have hTd : T.data.toList = t := by
        rw [← hT, drop_data, hSd, hcut.1, ← hi1, ← List.drop_drop, List.drop_left' rfl]
        rfl
      have hMd : M.data.toList = a := by
        rw [← hM, take_data _ _ (by rw [hSz, hcut.1, ← hi1]; simp), hSd, hcut.1, ← hi1, List.take_left' rfl]
      have hXz : X.length = i1 + 1 + t.length := by rw [hcut.1, List.length_append, List.length_cons]; omega
      have hTz : T.size = t.length := by rw [← data_len, hTd]
      have k1 : ((i1 : Int) == (S.size : Int)) = false := by rw [beq_eq_false_iff_ne]; omega
      have k2 : IntKind.i64.wrap ((i1 : Int) + 1) = (i1 : Int) + 1 := IntWalk.i64_in _ ⟨by omega, by omega⟩
      have k3 : (i1 : Int) + 1 ≤ (S.size : Int) := by omega
      have k4 : (i1 : Int) ≤ (S.size : Int) := by omega
      have SC2 := fun w => space_any T (by omega) w
      rw [hTd] at SC2
      have HC := Lib.hid hC
      clear hC hcut ha ht h1
      by_cases h2 : 32 ∈ t
      · have hcut := sp_cut h2
        obtain ⟨b, hb⟩ : ∃ a, spW t = a := ⟨_, rfl⟩
        obtain ⟨c3, hc⟩ : ∃ a, spR t = a := ⟨_, rfl⟩
        rw [hb, hc] at hcut
        rw [hb] at SC2
        have HC2 := HC.out
        rw [if_pos h2, hb, hc] at HC2
        replace HC := Lib.hid HC2
        obtain ⟨i2, hi2⟩ : ∃ i, b.length = i := ⟨_, rfl⟩
        rw [hi2] at SC2
        obtain ⟨G, hG⟩ : ∃ x, T.extract 0 i2 = x := ⟨_, rfl⟩
        obtain ⟨V, hV⟩ : ∃ x, T.extract (i2 + 1) T.size = x := ⟨_, rfl⟩
        have hVd : V.data.toList = c3 := by
          rw [← hV, drop_data, hTd, hcut.1, ← hi2, ← List.drop_drop, List.drop_left' rfl]
          rfl
        have hGd : G.data.toList = b := by
          rw [← hG, take_data _ _ (by rw [hTz, hcut.1, ← hi2]; simp), hTd, hcut.1, ← hi2, List.take_left' rfl]
        have htz : t.length = i2 + 1 + c3.length := by rw [hcut.1, List.length_append, List.length_cons]; omega
        have j1 : ((i2 : Int) == (T.size : Int)) = false := by rw [beq_eq_false_iff_ne]; omega
        have j2 : IntKind.i64.wrap ((i2 : Int) + 1) = (i2 : Int) + 1 := IntWalk.i64_in _ ⟨by omega, by omega⟩
        have j3 : (i2 : Int) + 1 ≤ (T.size : Int) := by omega
        have j5 : (0 : Int) ≤ (i2 : Int) + 1 := by omega
        have j4 : (i2 : Int) ≤ (T.size : Int) := by omega
        have hMz : M.size = i1 := by rw [← data_len, hMd, hi1]
        have hGz : G.size = i2 := by rw [← data_len, hGd, hi2]
        have MI := fun w => rminor6_any V w
        have TK := fun w => refToken_big M (by omega) w
        have VI := fun w => rVisible_big G (by omega) w
        rw [hVd] at MI
        rw [hMd] at TK
        rw [hGd] at VI
        obtain ⟨mv, hmv⟩ : ∃ x, (minorP c3).getD (-1) = x := ⟨_, rfl⟩
        rw [hmv] at MI
        replace MI := Lib.hid MI
        replace TK := Lib.hid TK
        replace VI := Lib.hid VI
        replace SC := Lib.hid SC
        replace SC2 := Lib.hid SC2
        have HMd := Lib.hid hMd
        have HGd := Lib.hid hGd
        have HMV := Lib.hid hmv
        have HI1 := Lib.hid hi1
        have HI2 := Lib.hid hi2
        have HMz := Lib.hid hMz
        have HGz := Lib.hid hGz
        clear hcut hb hc h2 HC2 hSd hTd hMd hGd hVd hXl hmv hi1 hi2 hXz htz hSz hTz hMz hGz
        have tok1 : True := trivial
        go_enter Tryz.func69, Tryz.ntmps69
        go_upto_region 11 with (first
          | (go_at_call 99; (with_reducible refine SL.out.mono ?_); rintro x2 w2 ⟨rfl, q2, hq2⟩; have hb2 : Below w1.heap.size w1 w2 := (by rw [hq2]; exact below_drewN (Below.refl _ _) _); clear hq2; have B2 := Lib.hid (below_step B1.out hb2); have Z2 := Lib.hid (Z1.out.below hb2 Z1.out.lt); clear hb2)
          | (have _t := tok1; go_at_call 101; (with_reducible refine (SC.out _).mono ?_); rintro x3 w3 ⟨rfl, rfl⟩; clear tok1; have tok2 : True := trivial)
          | (have _t := tok2; go_at_call 101; (with_reducible refine (SC2.out _).mono ?_); rintro x4 w4 ⟨rfl, rfl⟩))
        go_cut [11] from 40 to 51 (fun s wx => ∃ g, s = .pointer (some ⟨g, 0, none⟩) ∧ RowAt wx g 23 [.string M, .string G, .int .i64 0, .string ⟨#[]⟩, .int .i64 mv] ∧ Below w2.heap.size w2 wx)
        case first =>
          refine wp_region_tree (fun W => Below w2.heap.size w2 W) (.take 0 (.take 1 (.take 2 (.take 3 (.take 4 (.take 5 (.take 6 (.take 7 (.take 8 (.take 9 (.node (.fork 10 (.take 11 (.node (.fork 12 (.node (.fork 13 (.done) (.stop))) (.stop)))) (.fork 12 (.node (.fork 10 (.take 11 (.node (.fork 13 (.done) (.stop)))) (.stop))) (.stop)))))))))))))) (by kernel_rfl) (by kernel_rfl) (of_decide_eq_true (by kernel_rfl)) rfl (by kernel_rfl) (below_drewN (Below.refl _ _) 1) ?_
          intro w1 hH
          iterate 10
            refine tree_take (v := ?_) rfl (by rfl) ?_ ?_
            rotate_left
            · intro w2 hSw
              clear hSw
              go_simp
              try with_reducible rfl
            try simp only [Act.put, List.setIfInBounds_toArray, List.set_cons_zero, List.set_cons_succ]
          refine tree_node ?_
          refine tree_move rfl (by rfl) (fun K hK => ?_) ?_
          · go_simp
            (with_reducible refine (MI.out _).mono ?_)
            rintro x5 w5 ⟨rfl, rfl⟩
            refine hK.out _ _ (hH.out) ?_
            clear hH hK K
            intro hH
            try simp only [Act.put, List.setIfInBounds_toArray, List.set_cons_zero, List.set_cons_succ]
            iterate 1
              refine tree_take (v := ?_) rfl (by rfl) ?_ ?_
              rotate_left
              · intro w2 hSw
                clear hSw
                go_simp
                try with_reducible rfl
              try simp only [Act.put, List.setIfInBounds_toArray, List.set_cons_zero, List.set_cons_succ]
            refine tree_node ?_
            refine tree_move rfl (by rfl) (fun K hK => ?_) ?_
            · go_simp
              refine hK.out _ _ (hH.out.alloc hH.out.size _) ?_
              have FB := Lib.hid (row_at hH 23 zeroS)
              have HG := Lib.hid hH.out.size
              clear hH hK K
              intro hH
              try simp only [Act.put, List.setIfInBounds_toArray, List.set_cons_zero, List.set_cons_succ]
              refine tree_node ?_
              refine tree_move rfl (by rfl) (fun K hK => ?_) ?_
              · refine wp_store_row 23 _ _ rfl _ _ [.string M, .string G, .int .i64 0, .string ⟨#[]⟩, .int .i64 mv] zeroS rfl rfl (row_size FB.out (by simp)) rfl HZi.out (by simp [Value.oneCell']) ?_
                intro w7 hr7 ho7
                refine hK.out _ _ (ho7.below hH.out (by have := HG.out; first | exact this | (simp at this; omega))) ?_
                have FR7 := Lib.hid hr7
                clear hK K hr7 ho7 FB HG
                intro hH
                try simp only [Act.put]
                refine tree_done ?_
                go_wp2_with fail
                go_meet
                exact ⟨_, rfl, FR7.out, hH.out⟩
              exact tree_stop
            exact tree_stop
          refine tree_move rfl (by rfl) (fun K hK => ?_) ?_
          · go_simp
            refine hK.out _ _ (hH.out.alloc hH.out.size _) ?_
            have FB := Lib.hid (row_at hH 23 zeroS)
            have HG := Lib.hid hH.out.size
            clear hH hK K
            intro hH
            try simp only [Act.put, List.setIfInBounds_toArray, List.set_cons_zero, List.set_cons_succ]
            refine tree_node ?_
            refine tree_move rfl (by rfl) (fun K hK => ?_) ?_
            · go_simp
              (with_reducible refine (MI.out _).mono ?_)
              rintro x5 w5 ⟨rfl, rfl⟩
              refine hK.out _ _ (hH.out) ?_
              clear hH hK K
              intro hH
              try simp only [Act.put, List.setIfInBounds_toArray, List.set_cons_zero, List.set_cons_succ]
              iterate 1
                refine tree_take (v := ?_) rfl (by rfl) ?_ ?_
                rotate_left
                · intro w2 hSw
                  clear hSw
                  go_simp
                  try with_reducible rfl
                try simp only [Act.put, List.setIfInBounds_toArray, List.set_cons_zero, List.set_cons_succ]
              refine tree_node ?_
              refine tree_move rfl (by rfl) (fun K hK => ?_) ?_
              · refine wp_store_row 23 _ _ rfl _ _ [.string M, .string G, .int .i64 0, .string ⟨#[]⟩, .int .i64 mv] zeroS rfl rfl (row_size FB.out (by simp)) rfl HZi.out (by simp [Value.oneCell']) ?_
                intro w7 hr7 ho7
                refine hK.out _ _ (ho7.below hH.out (by have := HG.out; first | exact this | (simp at this; omega))) ?_
                have FR7 := Lib.hid hr7
                clear hK K hr7 ho7 FB HG
                intro hH
                try simp only [Act.put]
                refine tree_done ?_
                go_wp2_with fail
                go_meet
                exact ⟨_, rfl, FR7.out, hH.out⟩
              exact tree_stop
            exact tree_stop
          exact tree_stop
        case rest =>
          obtain ⟨w3, hw3⟩ : ∃ x : World, x = wc := ⟨_, rfl⟩
          subst hw3
          obtain ⟨g, rfl, hx, hbx⟩ := hcut
          have X3 := Lib.hid hx
          have B3 := Lib.hid (below_step B2.out hbx)
          have Z3 := Lib.hid (Z2.out.below hbx Z2.out.lt)
          have d4 := hx.cell (j := 4) rfl
          have d0 := hx.cell (j := 0) rfl
          clear hx hbx hT hM hG hV
          cases hm : minorP c3 with
          | none =>
            have hneg : mv < 0 := by rw [← HMV.out, hm]; decide
            have HT : Hid (R = (Sta.zero, 0, 10)) := Lib.hid (by rw [HQ.out, HC.out]; rw [hm]; simp)
            go_wp2_with (first
              | (refine wpList_store_row rfl 23 _ _ rfl w.heap.size _ zeroS zeroS rfl rfl Z3.out rfl HZi.out (by simp [zeroS, Value.oneCell']) ?_; intro wz hrz hoz; have RZ := Lib.hid hrz; have OZ := Lib.hid hoz; clear hrz hoz))
            exact bodyPost_ret (v := .tuple #[.agg (zeroS : List Value).toArray, .int .i64 0, .int .i64 10]) (results_cell_tmps Tryz.results69 _ wz ⟨w.heap.size, 0, none⟩ rfl (.agg (zeroS : List Value).toArray) (.int .i64 0) (.int .i64 10) rfl rfl (run_loadVar_mid wz w.heap.size 0 23 zeroS _ (rangeOf RZ.out) Tryz.underlying23 rfl HZi.out)) rfl ⟨by rw [HT.out]; rfl, OZ.out.below B3.out (Nat.le_refl _)⟩
          | some mi =>
            have hmi : mv = mi := by rw [← HMV.out, hm]; rfl
            have hneg : ¬ mv < 0 := by rw [hmi]; rcases (minor_free hm).2.2 with h | h <;> omega
            have HMI := Lib.hid hmi
            clear hmi
            cases ht : token a with
            | false =>
              have TF := TK.out
              rw [ht] at TF
              replace TK := Lib.hid TF
              clear TF
              have HT : Hid (R = (Sta.zero, 0, 10)) := Lib.hid (by rw [HQ.out, HC.out]; rw [hm, ht]; simp)
              go_wp2_with (first
                | (go_at_call 82; (with_reducible refine (TK.out _).mono ?_); rintro x5 w5 ⟨rfl, hb5⟩; have B5 := Lib.hid (below_step B3.out hb5); have Z5 := Lib.hid (Z3.out.below hb5 Z3.out.lt); have X5 := Lib.hid (X3.out.below hb5 X3.out.lt); have e0 := X5.out.cell (j := 0) rfl; have e1 := X5.out.cell (j := 1) rfl; clear hb5)
                | (refine wpList_store_row rfl 23 _ _ rfl w.heap.size _ zeroS zeroS rfl rfl Z5.out rfl HZi.out (by simp [zeroS, Value.oneCell']) ?_; intro wz hrz hoz; have RZ := Lib.hid hrz; have OZ := Lib.hid hoz; clear hrz hoz))
              exact bodyPost_ret (v := .tuple #[.agg (zeroS : List Value).toArray, .int .i64 0, .int .i64 10]) (results_cell_tmps Tryz.results69 _ wz ⟨w.heap.size, 0, none⟩ rfl (.agg (zeroS : List Value).toArray) (.int .i64 0) (.int .i64 10) rfl rfl (run_loadVar_mid wz w.heap.size 0 23 zeroS _ (rangeOf RZ.out) Tryz.underlying23 rfl HZi.out)) rfl ⟨by rw [HT.out]; rfl, OZ.out.below B5.out (Nat.le_refl _)⟩
            | true =>
              have TF := TK.out
              rw [ht] at TF
              replace TK := Lib.hid TF
              clear TF
              cases hv : vis6 b with
              | false =>
                have VF := VI.out
                rw [hv] at VF
                replace VI := Lib.hid VF
                clear VF
                have HT : Hid (R = (Sta.zero, 0, 10)) := Lib.hid (by rw [HQ.out, HC.out]; rw [hm, ht, hv]; simp)
                go_wp2_with (first
                  | (go_at_call 82; (with_reducible refine (TK.out _).mono ?_); rintro x5 w5 ⟨rfl, hb5⟩; have B5 := Lib.hid (below_step B3.out hb5); have Z5 := Lib.hid (Z3.out.below hb5 Z3.out.lt); have X5 := Lib.hid (X3.out.below hb5 X3.out.lt); have e0 := X5.out.cell (j := 0) rfl; have e1 := X5.out.cell (j := 1) rfl; clear hb5)
                  | (go_at_call 83; (with_reducible refine (VI.out _).mono ?_); rintro x6 w6 ⟨rfl, rfl⟩)
                  | (refine wpList_store_row rfl 23 _ _ rfl w.heap.size _ zeroS zeroS rfl rfl Z5.out rfl HZi.out (by simp [zeroS, Value.oneCell']) ?_; intro wz hrz hoz; have RZ := Lib.hid hrz; have OZ := Lib.hid hoz; clear hrz hoz))
                exact bodyPost_ret (v := .tuple #[.agg (zeroS : List Value).toArray, .int .i64 0, .int .i64 10]) (results_cell_tmps Tryz.results69 _ wz ⟨w.heap.size, 0, none⟩ rfl (.agg (zeroS : List Value).toArray) (.int .i64 0) (.int .i64 10) rfl rfl (run_loadVar_mid wz w.heap.size 0 23 zeroS _ (rangeOf RZ.out) Tryz.underlying23 rfl HZi.out)) rfl ⟨by rw [HT.out]; rfl, OZ.out.below B5.out (Nat.le_refl _)⟩
              | true =>
                have VF := VI.out
                rw [hv] at VF
                replace VI := Lib.hid VF
                clear VF
                by_cases h32 : 32 < i1
                · have q1 : (32 : Int) < (M.size : Int) := by have := HMz.out; omega
                  have HT : Hid (R = (Sta.zero, 0, 12)) := Lib.hid (by rw [HQ.out, HC.out]; rw [hm, ht, hv, HI1.out, HI2.out]; simp [h32])
                  go_wp2_with (first
                    | (go_at_call 82; (with_reducible refine (TK.out _).mono ?_); rintro x5 w5 ⟨rfl, hb5⟩; have B5 := Lib.hid (below_step B3.out hb5); have Z5 := Lib.hid (Z3.out.below hb5 Z3.out.lt); have X5 := Lib.hid (X3.out.below hb5 X3.out.lt); have e0 := X5.out.cell (j := 0) rfl; have e1 := X5.out.cell (j := 1) rfl; clear hb5)
                    | (go_at_call 83; (with_reducible refine (VI.out _).mono ?_); rintro x6 w6 ⟨rfl, rfl⟩)
                    | (refine wpList_store_row rfl 23 _ _ rfl w.heap.size _ zeroS zeroS rfl rfl Z5.out rfl HZi.out (by simp [zeroS, Value.oneCell']) ?_; intro wz hrz hoz; have RZ := Lib.hid hrz; have OZ := Lib.hid hoz; clear hrz hoz))
                  exact bodyPost_ret (v := .tuple #[.agg (zeroS : List Value).toArray, .int .i64 0, .int .i64 12]) (results_cell_tmps Tryz.results69 _ wz ⟨w.heap.size, 0, none⟩ rfl (.agg (zeroS : List Value).toArray) (.int .i64 0) (.int .i64 12) rfl rfl (run_loadVar_mid wz w.heap.size 0 23 zeroS _ (rangeOf RZ.out) Tryz.underlying23 rfl HZi.out)) rfl ⟨by rw [HT.out]; rfl, OZ.out.below B5.out (Nat.le_refl _)⟩
                · have q1 : ¬ (32 : Int) < (M.size : Int) := by have := HMz.out; omega
                  by_cases h80 : 8000 < i2
                  · have q2 : (8000 : Int) < (G.size : Int) := by have := HGz.out; omega
                    have HT : Hid (R = (Sta.zero, 0, 12)) := Lib.hid (by rw [HQ.out, HC.out]; rw [hm, ht, hv, HI1.out, HI2.out]; simp [h80])
                    go_wp2_with (first
                      | (go_at_call 82; (with_reducible refine (TK.out _).mono ?_); rintro x5 w5 ⟨rfl, hb5⟩; have B5 := Lib.hid (below_step B3.out hb5); have Z5 := Lib.hid (Z3.out.below hb5 Z3.out.lt); have X5 := Lib.hid (X3.out.below hb5 X3.out.lt); have e0 := X5.out.cell (j := 0) rfl; have e1 := X5.out.cell (j := 1) rfl; clear hb5)
                      | (go_at_call 83; (with_reducible refine (VI.out _).mono ?_); rintro x6 w6 ⟨rfl, rfl⟩)
                      | (refine wpList_store_row rfl 23 _ _ rfl w.heap.size _ zeroS zeroS rfl rfl Z5.out rfl HZi.out (by simp [zeroS, Value.oneCell']) ?_; intro wz hrz hoz; have RZ := Lib.hid hrz; have OZ := Lib.hid hoz; clear hrz hoz))
                    exact bodyPost_ret (v := .tuple #[.agg (zeroS : List Value).toArray, .int .i64 0, .int .i64 12]) (results_cell_tmps Tryz.results69 _ wz ⟨w.heap.size, 0, none⟩ rfl (.agg (zeroS : List Value).toArray) (.int .i64 0) (.int .i64 12) rfl rfl (run_loadVar_mid wz w.heap.size 0 23 zeroS _ (rangeOf RZ.out) Tryz.underlying23 rfl HZi.out)) rfl ⟨by rw [HT.out]; rfl, OZ.out.below B5.out (Nat.le_refl _)⟩
                  · have q2 : ¬ (8000 : Int) < (G.size : Int) := by have := HGz.out; omega
                    have HT : Hid (R = (⟨a, b, 0, [], mv⟩, (m : Int), 0)) := Lib.hid (by rw [HQ.out, HC.out]; rw [hm, ht, hv, HI1.out, HI2.out, HMI.out]; simp [h32, h80])
                    go_wp2_with (first
                      | (go_at_call 82; (with_reducible refine (TK.out _).mono ?_); rintro x5 w5 ⟨rfl, hb5⟩; have B5 := Lib.hid (below_step B3.out hb5); have Z5 := Lib.hid (Z3.out.below hb5 Z3.out.lt); have X5 := Lib.hid (X3.out.below hb5 X3.out.lt); have e0 := X5.out.cell (j := 0) rfl; have e1 := X5.out.cell (j := 1) rfl; clear hb5)
                      | (go_at_call 83; (with_reducible refine (VI.out _).mono ?_); rintro x6 w6 ⟨rfl, rfl⟩)
                      | (refine wpList_load_g (wanted_un rfl) 23 _ rfl g 0 rfl [.string M, .string G, .int .i64 0, .string ⟨#[]⟩, .int .i64 mv] _ (rangeOf X5.out) Tryz.underlying23 rfl HZi.out ?_)
                      | (refine wpList_store_row rfl 23 _ _ rfl w.heap.size _ [.string M, .string G, .int .i64 0, .string ⟨#[]⟩, .int .i64 mv] zeroS rfl rfl Z5.out rfl HZi.out (by simp [Value.oneCell']) ?_; intro wz hrz hoz; have RZ := Lib.hid hrz; have OZ := Lib.hid hoz; clear hrz hoz))
                    exact bodyPost_ret (v := .tuple #[.agg ([.string M, .string G, .int .i64 0, .string ⟨#[]⟩, .int .i64 mv] : List Value).toArray, .int .i64 m, .int .i64 0]) (results_cell_tmps Tryz.results69 _ wz ⟨w.heap.size, 0, none⟩ rfl (.agg ([.string M, .string G, .int .i64 0, .string ⟨#[]⟩, .int .i64 mv] : List Value).toArray) (.int .i64 m) (.int .i64 0) rfl rfl (run_loadVar_mid wz w.heap.size 0 23 [.string M, .string G, .int .i64 0, .string ⟨#[]⟩, .int .i64 mv] _ (rangeOf RZ.out) Tryz.underlying23 rfl HZi.out)) rfl ⟨by rw [HT.out]; unfold staC; simp only; rw [← HMd.out, ← HGd.out], OZ.out.below B5.out (Nat.le_refl _)⟩
      · have hn : spW t = t := by
          have := tw_of (l := t) (k := t.length) (by rw [List.take_length]; intro c hc e; exact h2 (e ▸ hc)) (Nat.le_refl _) (.inr rfl)
          rw [List.take_length] at this; exact this
        rw [hn, ← hTz] at SC2
        have HT : Hid (R = (Sta.zero, 0, 10)) := Lib.hid (by rw [HQ.out, HC.out, if_neg h2]; simp)
        replace SC := Lib.hid SC
        replace SC2 := Lib.hid SC2
        have tok1 : True := trivial
        clear h2 hn hSd hTd hMd hXl hi1 hXz hSz hTz
        go_enter Tryz.func69, Tryz.ntmps69
        go_wp2_with (first
          | (go_at_call 99; (with_reducible refine SL.out.mono ?_); rintro x2 w2 ⟨rfl, q2, hq2⟩; have hb2 : Below w1.heap.size w1 w2 := (by rw [hq2]; exact below_drewN (Below.refl _ _) _); clear hq2; have B2 := Lib.hid (below_step B1.out hb2); have Z2 := Lib.hid (Z1.out.below hb2 Z1.out.lt); clear hb2)
          | (have _t := tok1; go_at_call 101; (with_reducible refine (SC.out _).mono ?_); rintro x3 w3 ⟨rfl, rfl⟩; clear tok1; have tok2 : True := trivial)
          | (have _t := tok2; go_at_call 101; (with_reducible refine (SC2.out _).mono ?_); rintro x4 w4 ⟨rfl, rfl⟩)
          | (refine wpList_store_row rfl 23 _ _ rfl w.heap.size _ zeroS zeroS rfl rfl Z2.out rfl HZi.out (by simp [zeroS, Value.oneCell']) ?_; intro wz hrz hoz; have RZ := Lib.hid hrz; have OZ := Lib.hid hoz; clear hrz hoz))
        exact bodyPost_ret (v := .tuple #[.agg (zeroS : List Value).toArray, .int .i64 0, .int .i64 10]) (results_cell_tmps Tryz.results69 _ wz ⟨w.heap.size, 0, none⟩ rfl (.agg (zeroS : List Value).toArray) (.int .i64 0) (.int .i64 10) rfl rfl (run_loadVar_mid wz w.heap.size 0 23 zeroS _ (rangeOf RZ.out) Tryz.underlying23 rfl HZi.out)) rfl ⟨by rw [HT.out]; rfl, OZ.out.below B2.out (Nat.le_refl _)⟩
    · have hn : spW X = X := by
        have := tw_of (l := X) (k := X.length) (by rw [List.take_length]; intro c hc e; exact h1 (e ▸ hc)) (Nat.le_refl _) (.inr rfl)
        rw [List.take_length] at this; exact this
      rw [hn, ← hSz] at SC
      have HT : Hid (R = (Sta.zero, 0, 10)) := Lib.hid (by
        rw [HQ.out]
        have hC : reqR X = (Sta.zero, 10) := by unfold reqR; rw [if_neg (fun h => h1 h.1)]
        rw [hC]; simp)
      replace SC := Lib.hid SC
      have tok1 : True := trivial
      clear h1 hn hSd hXl hSz
      go_enter Tryz.func69, Tryz.ntmps69
      go_wp2_with (first
        | (go_at_call 99; (with_reducible refine SL.out.mono ?_); rintro x2 w2 ⟨rfl, q2, hq2⟩; have hb2 : Below w1.heap.size w1 w2 := (by rw [hq2]; exact below_drewN (Below.refl _ _) _); clear hq2; have B2 := Lib.hid (below_step B1.out hb2); have Z2 := Lib.hid (Z1.out.below hb2 Z1.out.lt); clear hb2)
        | (have _t := tok1; go_at_call 101; (with_reducible refine (SC.out _).mono ?_); rintro x3 w3 ⟨rfl, rfl⟩; clear tok1; have tok2 : True := trivial)
        | (refine wpList_store_row rfl 23 _ _ rfl w.heap.size _ zeroS zeroS rfl rfl Z2.out rfl HZi.out (by simp [zeroS, Value.oneCell']) ?_; intro wz hrz hoz; have RZ := Lib.hid hrz; have OZ := Lib.hid hoz; clear hrz hoz))
      exact bodyPost_ret (v := .tuple #[.agg (zeroS : List Value).toArray, .int .i64 0, .int .i64 10]) (results_cell_tmps Tryz.results69 _ wz ⟨w.heap.size, 0, none⟩ rfl (.agg (zeroS : List Value).toArray) (.int .i64 0) (.int .i64 10) rfl rfl (run_loadVar_mid wz w.heap.size 0 23 zeroS _ (rangeOf RZ.out) Tryz.underlying23 rfl HZi.out)) rfl ⟨by rw [HT.out]; rfl, OZ.out.below B2.out (Nat.le_refl _)⟩
end Go.Proofs.YtniiadhhefgmcaaGreatDoor

/- Walks of layer 6: a response's first line, by the document. Condition: at most 10^9 octets. -/
namespace Go.Proofs.YtniiadhhefgmcaaGreatDoor
open Go.RowKit IH
set_option maxRecDepth 100000
set_option maxHeartbeats 16000000 in
theorem rresp6_any (A : Option Addr) (n c : Nat) (l : List UInt8) (w : World) (hin : SliceIn w w.heap.size 1 A n c (bytesV l)) (hn : n ≤ 1000000000) :
    Calls Tryz.prog 68 #[.slice A n c] w fun e w' => e = .returned (.tuple #[.agg (staC (responseL l).1).toArray, .int .i64 (responseL l).2.1, .int .i64 (responseL l).2.2]) ∧ Below w.heap.size w w' := by
  obtain ⟨w1, hw1⟩ : ∃ W : World, w.alloc (.cells #[.string ⟨#[]⟩, .string ⟨#[]⟩, .int .i64 0, .string ⟨#[]⟩, .int .i64 0] 23) = W := ⟨_, rfl⟩
  have B1 : Hid (Below w.heap.size w w1) := Lib.hid (by rw [← hw1]; exact (Below.refl _ _).alloc (Nat.le_refl _) _)
  have Z1 : Hid (RowAt w1 w.heap.size 23 zeroS) := Lib.hid (by rw [← hw1]; exact RowAt.new w 23 zeroS)
  have HZi : Hid ((Tryz.prog.info? 23).map (·.size) = some 5) := Lib.hid (by kernel_rfl)
  have SL := rline6_any A n c w.heap.size l 300 w1 (hin.below B1.out) hn (by omega)
  rw [show ((300 : Nat) : Int) = 300 from rfl] at SL
  obtain ⟨X, m, er, hL⟩ : ∃ X m e, lineS 300 l = (X, m, e) := ⟨_, _, _, rfl⟩
  have hXl : X.length ≤ 1000000000 := by
    have h := lineS_len (most := 300) (b := l)
    have hll : l.length = n := by have := hin.1; rw [bytesV_length] at this; omega
    rw [hL] at h
    exact Nat.le_trans h (by omega)
  rw [hL] at SL
  simp only at SL
  obtain ⟨R, hR⟩ : ∃ R, responseL l = R := ⟨_, rfl⟩
  rw [hR]
  have HR := Lib.hid hR
  have HL := Lib.hid hL
  obtain ⟨S, hS⟩ : ∃ S : ByteArray, (⟨X.toArray⟩ : ByteArray) = S := ⟨_, rfl⟩
  have hSd : S.data.toList = X := by rw [← hS]
  have hSz : S.size = X.length := by rw [← hS]; exact size_mk _
  rw [hS] at SL
  replace SL := Lib.hid SL
  clear hR hL hS hin
  by_cases he : er ≠ 0
  · have neb : (er != 0) = true := by rw [bne_iff_ne]; exact he
    have HT : Hid (R = (Sta.zero, 0, er)) := Lib.hid (by rw [← HR.out]; unfold responseL; rw [HL.out]; simp only; rw [if_pos he])
    go_enter Tryz.func68, Tryz.ntmps68
    go_wp2_with (first
      | (go_at_call 99; (with_reducible refine SL.out.mono ?_); rintro x2 w2 ⟨rfl, q2, hq2⟩; have hb2 : Below w1.heap.size w1 w2 := (by rw [hq2]; exact below_drewN (Below.refl _ _) _); clear hq2; have B2 := Lib.hid (below_step B1.out hb2); have Z2 := Lib.hid (Z1.out.below hb2 Z1.out.lt); clear hb2)
      | (refine wpList_store_row rfl 23 _ _ rfl w.heap.size _ zeroS zeroS rfl rfl Z2.out rfl HZi.out (by simp [zeroS, Value.oneCell']) ?_; intro wz hrz hoz; have RZ := Lib.hid hrz; have OZ := Lib.hid hoz; clear hrz hoz))
    exact bodyPost_ret (v := .tuple #[.agg (zeroS : List Value).toArray, .int .i64 0, .int .i64 er]) (results_cell_tmps Tryz.results68 _ wz ⟨w.heap.size, 0, none⟩ rfl (.agg (zeroS : List Value).toArray) (.int .i64 0) (.int .i64 er) rfl rfl (run_loadVar_mid wz w.heap.size 0 23 zeroS _ (rangeOf RZ.out) Tryz.underlying23 rfl HZi.out)) rfl ⟨by rw [HT.out]; rfl, OZ.out.below B2.out (Nat.le_refl _)⟩
  · obtain rfl : er = 0 := by omega
    have HQ : Hid (R = if (respR X).2 ≠ 0 then (Sta.zero, 0, (respR X).2) else ((respR X).1, (m : Int), 0)) := Lib.hid (by rw [← HR.out]; unfold responseL; rw [HL.out, ← resp_eq]; simp)
    clear he
    by_cases h13 : X.length < 13
    · have kk : (S.size : Int) < 13 := by omega
      have k1 := kk
      have HT : Hid (R = (Sta.zero, 0, 10)) := Lib.hid (by
        rw [HQ.out]
        have hC : respR X = (Sta.zero, 10) := by unfold respR; rw [if_pos (.inl h13)]
        rw [hC]; simp)
      go_enter Tryz.func68, Tryz.ntmps68
      go_wp2_with (first
        | (go_at_call 99; (with_reducible refine SL.out.mono ?_); rintro x2 w2 ⟨rfl, q2, hq2⟩; have hb2 : Below w1.heap.size w1 w2 := (by rw [hq2]; exact below_drewN (Below.refl _ _) _); clear hq2; have B2 := Lib.hid (below_step B1.out hb2); have Z2 := Lib.hid (Z1.out.below hb2 Z1.out.lt); clear hb2)
        | (refine wpList_store_row rfl 23 _ _ rfl w.heap.size _ zeroS zeroS rfl rfl Z2.out rfl HZi.out (by simp [zeroS, Value.oneCell']) ?_; intro wz hrz hoz; have RZ := Lib.hid hrz; have OZ := Lib.hid hoz; clear hrz hoz))
      exact bodyPost_ret (v := .tuple #[.agg (zeroS : List Value).toArray, .int .i64 0, .int .i64 10]) (results_cell_tmps Tryz.results68 _ wz ⟨w.heap.size, 0, none⟩ rfl (.agg (zeroS : List Value).toArray) (.int .i64 0) (.int .i64 10) rfl rfl (run_loadVar_mid wz w.heap.size 0 23 zeroS _ (rangeOf RZ.out) Tryz.underlying23 rfl HZi.out)) rfl ⟨by rw [HT.out]; rfl, OZ.out.below B2.out (Nat.le_refl _)⟩
    · have k1 : ¬ (S.size : Int) < 13 := by omega
      have z8 : 8 < S.size := by omega
      have z12 : 12 < S.size := by omega
      have i8 : (8 : Int) < (S.size : Int) := by omega
      have i12 : (12 : Int) < (S.size : Int) := by omega
      obtain ⟨c8, hc8⟩ : ∃ c, S[8] = c := ⟨_, rfl⟩
      obtain ⟨c12, hc12⟩ : ∃ c, S[12] = c := ⟨_, rfl⟩
      have g8 := get_data S 8 z8
      have g12 := get_data S 12 z12
      rw [hc8, hSd] at g8
      rw [hc12, hSd] at g12
      by_cases h8 : c8 = 32
      · subst h8
        have e1 : (((32 : UInt8).toNat : Int) == 32) = true := rfl
        have e2 : (((32 : UInt8).toNat : Int) != 32) = false := rfl
        by_cases h12 : c12 = 32
        · subst h12
          have hC : respR X = (match minorP (X.take 8) with
            | none => (Sta.zero, (10 : Int))
            | some m => if (numR 10 999 ((X.drop 9).take 3)).2 ≠ 0 ∨ (numR 10 999 ((X.drop 9).take 3)).1 < 100 ∨ value (X.drop 13) = false then (Sta.zero, 10)
              else if 200 < (X.drop 13).length then (Sta.zero, 12) else (⟨[], [], (numR 10 999 ((X.drop 9).take 3)).1, X.drop 13, m⟩, 0)) := by
            unfold respR
            rw [if_neg (by rintro (h | h | h); exact h13 h; exact h g8; exact h g12)]; rfl
          obtain ⟨N3, hN3⟩ : ∃ x, S.extract 9 12 = x := ⟨_, rfl⟩
          obtain ⟨V, hV⟩ : ∃ x, S.extract 0 8 = x := ⟨_, rfl⟩
          obtain ⟨Q, hQ⟩ : ∃ x, S.extract 13 S.size = x := ⟨_, rfl⟩
          have dN : N3.data.toList = (X.drop 9).take 3 := by rw [← hN3, Lib.extract_data, hSd]
          have dV : V.data.toList = X.take 8 := by rw [← hV, take_data _ _ (by omega), hSd]
          have dQ : Q.data.toList = X.drop 13 := by rw [← hQ, drop_data, hSd]
          have zN : N3.size = 3 := by rw [← data_len, dN, List.length_take, List.length_drop]; omega
          have zQ : Q.size = X.length - 13 := by rw [← data_len, dQ, List.length_drop]
          have NU := fun w => refNumber10_any N3 (by omega) 999 (by omega) (by omega) w
          have MI := fun w => rminor6_any V w
          have VA := fun w => refValue_any Q (by omega) w
          rw [dN] at NU
          rw [dV] at MI
          rw [dQ] at VA
          obtain ⟨nv, ne, hN⟩ : ∃ x y, numR 10 999 ((X.drop 9).take 3) = (x, y) := ⟨_, _, rfl⟩
          rw [hN] at NU hC
          simp only at NU
          obtain ⟨mv, hmv⟩ : ∃ x, (minorP (X.take 8)).getD (-1) = x := ⟨_, rfl⟩
          rw [hmv] at MI
          obtain ⟨D, hD⟩ : ∃ x, X.drop 13 = x := ⟨_, rfl⟩
          rw [hD] at VA hC dQ
          have zQD : Q.size = D.length := by rw [← data_len, dQ]
          have HC := Lib.hid hC
          have HMV := Lib.hid hmv
          have HDQ := Lib.hid dQ
          have x1 : (9 : Int) ≤ (S.size : Int) := by omega
          have x2 : (13 : Int) ≤ (S.size : Int) := by omega
          have x3 : (8 : Int) ≤ (S.size : Int) := by omega
          have x4 : (12 : Int) ≤ (S.size : Int) := by omega
          replace MI := Lib.hid MI
          replace VA := Lib.hid VA
          replace NU := Lib.hid NU
          clear hC g8 g12 dN dV dQ zN zQ hN hmv hD hSd hSz hXl h13
          go_enter Tryz.func68, Tryz.ntmps68
          go_upto_region 7 with (first
            | (go_at_call 99; (with_reducible refine SL.out.mono ?_); rintro x2 w2 ⟨rfl, q2, hq2⟩; have hb2 : Below w1.heap.size w1 w2 := (by rw [hq2]; exact below_drewN (Below.refl _ _) _); clear hq2; have B2 := Lib.hid (below_step B1.out hb2); have Z2 := Lib.hid (Z1.out.below hb2 Z1.out.lt); clear hb2)
            | (go_at_call 81; (with_reducible refine (NU.out _).mono ?_); rintro x4 w4 ⟨rfl, rfl⟩))
          go_cut [10] from 41 to 47 (fun s wx => ∃ g, s = .pointer (some ⟨g, 0, none⟩) ∧ RowAt wx g 23 [.string ⟨#[]⟩, .string ⟨#[]⟩, .int .i64 nv, .string Q, .int .i64 mv] ∧ Below w2.heap.size w2 wx)
          case first =>
            refine wp_region_tree (fun W => Below w2.heap.size w2 W) (.take 0 (.take 1 (.take 2 (.take 3 (.take 4 (.node (.fork 5 (.take 6 (.node (.fork 7 (.node (.fork 8 (.done) (.stop))) (.stop)))) (.fork 7 (.node (.fork 5 (.take 6 (.node (.fork 8 (.done) (.stop)))) (.stop))) (.stop))))))))) (by kernel_rfl) (by kernel_rfl) (of_decide_eq_true (by kernel_rfl)) rfl (by kernel_rfl) (below_drewN (Below.refl _ _) 1) ?_
            intro w1 hH
            iterate 5
              refine tree_take (v := ?_) rfl (by rfl) ?_ ?_
              rotate_left
              · intro w2 hSw
                clear hSw
                go_simp
                try with_reducible rfl
              try simp only [Act.put, List.setIfInBounds_toArray, List.set_cons_zero, List.set_cons_succ]
            refine tree_node ?_
            refine tree_move rfl (by rfl) (fun K hK => ?_) ?_
            · go_simp
              (with_reducible refine (MI.out _).mono ?_)
              rintro x5 w5 ⟨rfl, rfl⟩
              refine hK.out _ _ (hH.out) ?_
              clear hH hK K
              intro hH
              try simp only [Act.put, List.setIfInBounds_toArray, List.set_cons_zero, List.set_cons_succ]
              iterate 1
                refine tree_take (v := ?_) rfl (by rfl) ?_ ?_
                rotate_left
                · intro w2 hSw
                  clear hSw
                  go_simp
                  try with_reducible rfl
                try simp only [Act.put, List.setIfInBounds_toArray, List.set_cons_zero, List.set_cons_succ]
              refine tree_node ?_
              refine tree_move rfl (by rfl) (fun K hK => ?_) ?_
              · go_simp
                refine hK.out _ _ (hH.out.alloc hH.out.size _) ?_
                have FB := Lib.hid (row_at hH 23 zeroS)
                have HG := Lib.hid hH.out.size
                clear hH hK K
                intro hH
                try simp only [Act.put, List.setIfInBounds_toArray, List.set_cons_zero, List.set_cons_succ]
                refine tree_node ?_
                refine tree_move rfl (by rfl) (fun K hK => ?_) ?_
                · refine wp_store_row 23 _ _ rfl _ _ [.string ⟨#[]⟩, .string ⟨#[]⟩, .int .i64 nv, .string Q, .int .i64 mv] zeroS rfl rfl (row_size FB.out (by simp)) rfl HZi.out (by simp [Value.oneCell']) ?_
                  intro w7 hr7 ho7
                  refine hK.out _ _ (ho7.below hH.out (by have := HG.out; first | exact this | (simp at this; omega))) ?_
                  have FR7 := Lib.hid hr7
                  clear hK K hr7 ho7 FB HG
                  intro hH
                  try simp only [Act.put]
                  refine tree_done ?_
                  go_wp2_with fail
                  go_meet
                  exact ⟨_, rfl, FR7.out, hH.out⟩
                exact tree_stop
              exact tree_stop
            refine tree_move rfl (by rfl) (fun K hK => ?_) ?_
            · go_simp
              refine hK.out _ _ (hH.out.alloc hH.out.size _) ?_
              have FB := Lib.hid (row_at hH 23 zeroS)
              have HG := Lib.hid hH.out.size
              clear hH hK K
              intro hH
              try simp only [Act.put, List.setIfInBounds_toArray, List.set_cons_zero, List.set_cons_succ]
              refine tree_node ?_
              refine tree_move rfl (by rfl) (fun K hK => ?_) ?_
              · go_simp
                (with_reducible refine (MI.out _).mono ?_)
                rintro x5 w5 ⟨rfl, rfl⟩
                refine hK.out _ _ (hH.out) ?_
                clear hH hK K
                intro hH
                try simp only [Act.put, List.setIfInBounds_toArray, List.set_cons_zero, List.set_cons_succ]
                iterate 1
                  refine tree_take (v := ?_) rfl (by rfl) ?_ ?_
                  rotate_left
                  · intro w2 hSw
                    clear hSw
                    go_simp
                    try with_reducible rfl
                  try simp only [Act.put, List.setIfInBounds_toArray, List.set_cons_zero, List.set_cons_succ]
                refine tree_node ?_
                refine tree_move rfl (by rfl) (fun K hK => ?_) ?_
                · refine wp_store_row 23 _ _ rfl _ _ [.string ⟨#[]⟩, .string ⟨#[]⟩, .int .i64 nv, .string Q, .int .i64 mv] zeroS rfl rfl (row_size FB.out (by simp)) rfl HZi.out (by simp [Value.oneCell']) ?_
                  intro w7 hr7 ho7
                  refine hK.out _ _ (ho7.below hH.out (by have := HG.out; first | exact this | (simp at this; omega))) ?_
                  have FR7 := Lib.hid hr7
                  clear hK K hr7 ho7 FB HG
                  intro hH
                  try simp only [Act.put]
                  refine tree_done ?_
                  go_wp2_with fail
                  go_meet
                  exact ⟨_, rfl, FR7.out, hH.out⟩
                exact tree_stop
              exact tree_stop
            exact tree_stop
          case rest =>
            obtain ⟨w3, hw3⟩ : ∃ x : World, x = wc := ⟨_, rfl⟩
            subst hw3
            obtain ⟨g, rfl, hx, hbx⟩ := hcut
            have X3 := Lib.hid hx
            have B3 := Lib.hid (below_step B2.out hbx)
            have Z3 := Lib.hid (Z2.out.below hbx Z2.out.lt)
            have d4 := hx.cell (j := 4) rfl
            have d3 := hx.cell (j := 3) rfl
            clear hx hbx hN3 hV hQ
            by_cases hne : ne = 0
            · subst hne
              by_cases h100 : nv < 100
              · have _u := h100
                have HT : Hid (R = (Sta.zero, 0, 10)) := Lib.hid (by rw [HQ.out, HC.out]; cases minorP (X.take 8) <;> simp [h100])
                go_wp2_with (first
                  | (refine wpList_store_row rfl 23 _ _ rfl w.heap.size _ zeroS zeroS rfl rfl Z3.out rfl HZi.out (by simp [zeroS, Value.oneCell']) ?_; intro wz hrz hoz; have RZ := Lib.hid hrz; have OZ := Lib.hid hoz; clear hrz hoz))
                exact bodyPost_ret (v := .tuple #[.agg (zeroS : List Value).toArray, .int .i64 0, .int .i64 10]) (results_cell_tmps Tryz.results68 _ wz ⟨w.heap.size, 0, none⟩ rfl (.agg (zeroS : List Value).toArray) (.int .i64 0) (.int .i64 10) rfl rfl (run_loadVar_mid wz w.heap.size 0 23 zeroS _ (rangeOf RZ.out) Tryz.underlying23 rfl HZi.out)) rfl ⟨by rw [HT.out]; rfl, OZ.out.below B3.out (Nat.le_refl _)⟩
              · cases hm : minorP (X.take 8) with
                | none =>
                  have hneg : mv < 0 := by rw [← HMV.out, hm]; decide
                  have HT : Hid (R = (Sta.zero, 0, 10)) := Lib.hid (by rw [HQ.out, HC.out]; rw [hm]; simp)
                  go_wp2_with (first
                    | (refine wpList_store_row rfl 23 _ _ rfl w.heap.size _ zeroS zeroS rfl rfl Z3.out rfl HZi.out (by simp [zeroS, Value.oneCell']) ?_; intro wz hrz hoz; have RZ := Lib.hid hrz; have OZ := Lib.hid hoz; clear hrz hoz))
                  exact bodyPost_ret (v := .tuple #[.agg (zeroS : List Value).toArray, .int .i64 0, .int .i64 10]) (results_cell_tmps Tryz.results68 _ wz ⟨w.heap.size, 0, none⟩ rfl (.agg (zeroS : List Value).toArray) (.int .i64 0) (.int .i64 10) rfl rfl (run_loadVar_mid wz w.heap.size 0 23 zeroS _ (rangeOf RZ.out) Tryz.underlying23 rfl HZi.out)) rfl ⟨by rw [HT.out]; rfl, OZ.out.below B3.out (Nat.le_refl _)⟩
                | some mi =>
                  have hmi : mv = mi := by rw [← HMV.out, hm]; rfl
                  have hneg : ¬ mv < 0 := by rw [hmi]; rcases (minor_free hm).2.2 with h | h <;> omega
                  have HMI := Lib.hid hmi
                  clear hmi
                  cases hv : value D with
                  | false =>
                    have VF := VA.out
                    rw [hv] at VF
                    replace VA := Lib.hid VF
                    clear VF
                    have HT : Hid (R = (Sta.zero, 0, 10)) := Lib.hid (by rw [HQ.out, HC.out]; rw [hm, hv]; simp)
                    go_wp2_with (first
                      | (go_at_call 84; (with_reducible refine (VA.out _).mono ?_); rintro x6 w6 ⟨rfl, rfl⟩)
                      | (refine wpList_store_row rfl 23 _ _ rfl w.heap.size _ zeroS zeroS rfl rfl Z3.out rfl HZi.out (by simp [zeroS, Value.oneCell']) ?_; intro wz hrz hoz; have RZ := Lib.hid hrz; have OZ := Lib.hid hoz; clear hrz hoz))
                    exact bodyPost_ret (v := .tuple #[.agg (zeroS : List Value).toArray, .int .i64 0, .int .i64 10]) (results_cell_tmps Tryz.results68 _ wz ⟨w.heap.size, 0, none⟩ rfl (.agg (zeroS : List Value).toArray) (.int .i64 0) (.int .i64 10) rfl rfl (run_loadVar_mid wz w.heap.size 0 23 zeroS _ (rangeOf RZ.out) Tryz.underlying23 rfl HZi.out)) rfl ⟨by rw [HT.out]; rfl, OZ.out.below B3.out (Nat.le_refl _)⟩
                  | true =>
                    have VF := VA.out
                    rw [hv] at VF
                    replace VA := Lib.hid VF
                    clear VF
                    by_cases h200 : 200 < D.length
                    · have q1 : (200 : Int) < (Q.size : Int) := by omega
                      have HT : Hid (R = (Sta.zero, 0, 12)) := Lib.hid (by rw [HQ.out, HC.out]; rw [hm, hv]; simp [h100, h200])
                      go_wp2_with (first
                        | (go_at_call 84; (with_reducible refine (VA.out _).mono ?_); rintro x6 w6 ⟨rfl, rfl⟩)
                        | (refine wpList_store_row rfl 23 _ _ rfl w.heap.size _ zeroS zeroS rfl rfl Z3.out rfl HZi.out (by simp [zeroS, Value.oneCell']) ?_; intro wz hrz hoz; have RZ := Lib.hid hrz; have OZ := Lib.hid hoz; clear hrz hoz))
                      exact bodyPost_ret (v := .tuple #[.agg (zeroS : List Value).toArray, .int .i64 0, .int .i64 12]) (results_cell_tmps Tryz.results68 _ wz ⟨w.heap.size, 0, none⟩ rfl (.agg (zeroS : List Value).toArray) (.int .i64 0) (.int .i64 12) rfl rfl (run_loadVar_mid wz w.heap.size 0 23 zeroS _ (rangeOf RZ.out) Tryz.underlying23 rfl HZi.out)) rfl ⟨by rw [HT.out]; rfl, OZ.out.below B3.out (Nat.le_refl _)⟩
                    · have q1 : ¬ (200 : Int) < (Q.size : Int) := by omega
                      have HT : Hid (R = (⟨[], [], nv, D, mv⟩, (m : Int), 0)) := Lib.hid (by rw [HQ.out, HC.out]; rw [hm, hv, HMI.out]; simp [h100, h200])
                      go_wp2_with (first
                        | (go_at_call 84; (with_reducible refine (VA.out _).mono ?_); rintro x6 w6 ⟨rfl, rfl⟩)
                        | (refine wpList_load_g (wanted_un rfl) 23 _ rfl g 0 rfl [.string ⟨#[]⟩, .string ⟨#[]⟩, .int .i64 nv, .string Q, .int .i64 mv] _ (rangeOf X3.out) Tryz.underlying23 rfl HZi.out ?_)
                        | (refine wpList_store_row rfl 23 _ _ rfl w.heap.size _ [.string ⟨#[]⟩, .string ⟨#[]⟩, .int .i64 nv, .string Q, .int .i64 mv] zeroS rfl rfl Z3.out rfl HZi.out (by simp [Value.oneCell']) ?_; intro wz hrz hoz; have RZ := Lib.hid hrz; have OZ := Lib.hid hoz; clear hrz hoz))
                      exact bodyPost_ret (v := .tuple #[.agg ([.string ⟨#[]⟩, .string ⟨#[]⟩, .int .i64 nv, .string Q, .int .i64 mv] : List Value).toArray, .int .i64 m, .int .i64 0]) (results_cell_tmps Tryz.results68 _ wz ⟨w.heap.size, 0, none⟩ rfl (.agg ([.string ⟨#[]⟩, .string ⟨#[]⟩, .int .i64 nv, .string Q, .int .i64 mv] : List Value).toArray) (.int .i64 m) (.int .i64 0) rfl rfl (run_loadVar_mid wz w.heap.size 0 23 [.string ⟨#[]⟩, .string ⟨#[]⟩, .int .i64 nv, .string Q, .int .i64 mv] _ (rangeOf RZ.out) Tryz.underlying23 rfl HZi.out)) rfl ⟨by rw [HT.out]; unfold staC; simp only; rw [← HDQ.out], OZ.out.below B3.out (Nat.le_refl _)⟩
            · have nen : (ne != 0) = true := by rw [bne_iff_ne]; exact hne
              have HT : Hid (R = (Sta.zero, 0, 10)) := Lib.hid (by rw [HQ.out, HC.out]; cases minorP (X.take 8) <;> simp [hne])
              go_wp2_with (first
                | (refine wpList_store_row rfl 23 _ _ rfl w.heap.size _ zeroS zeroS rfl rfl Z3.out rfl HZi.out (by simp [zeroS, Value.oneCell']) ?_; intro wz hrz hoz; have RZ := Lib.hid hrz; have OZ := Lib.hid hoz; clear hrz hoz))
              exact bodyPost_ret (v := .tuple #[.agg (zeroS : List Value).toArray, .int .i64 0, .int .i64 10]) (results_cell_tmps Tryz.results68 _ wz ⟨w.heap.size, 0, none⟩ rfl (.agg (zeroS : List Value).toArray) (.int .i64 0) (.int .i64 10) rfl rfl (run_loadVar_mid wz w.heap.size 0 23 zeroS _ (rangeOf RZ.out) Tryz.underlying23 rfl HZi.out)) rfl ⟨by rw [HT.out]; rfl, OZ.out.below B3.out (Nat.le_refl _)⟩
        · have _u := h12
          have e1 : ((c12.toNat : Int) == 32) = false := by rw [beq_eq_false_iff_ne]; intro h; exact h12 (UInt8.toNat_inj.1 (by have : (32 : UInt8).toNat = 32 := rfl; omega))
          have e3 : ((c12.toNat : Int) != 32) = true := by rw [bne, e1]; rfl
          have HT : Hid (R = (Sta.zero, 0, 10)) := Lib.hid (by
            rw [HQ.out]
            have hC : respR X = (Sta.zero, 10) := by unfold respR; rw [if_pos (.inr (.inr (by rw [g12]; simpa using h12)))]
            rw [hC]; simp)
          go_enter Tryz.func68, Tryz.ntmps68
          go_wp2_with (first
            | (go_at_call 99; (with_reducible refine SL.out.mono ?_); rintro x2 w2 ⟨rfl, q2, hq2⟩; have hb2 : Below w1.heap.size w1 w2 := (by rw [hq2]; exact below_drewN (Below.refl _ _) _); clear hq2; have B2 := Lib.hid (below_step B1.out hb2); have Z2 := Lib.hid (Z1.out.below hb2 Z1.out.lt); clear hb2)
            | (refine wpList_store_row rfl 23 _ _ rfl w.heap.size _ zeroS zeroS rfl rfl Z2.out rfl HZi.out (by simp [zeroS, Value.oneCell']) ?_; intro wz hrz hoz; have RZ := Lib.hid hrz; have OZ := Lib.hid hoz; clear hrz hoz))
          exact bodyPost_ret (v := .tuple #[.agg (zeroS : List Value).toArray, .int .i64 0, .int .i64 10]) (results_cell_tmps Tryz.results68 _ wz ⟨w.heap.size, 0, none⟩ rfl (.agg (zeroS : List Value).toArray) (.int .i64 0) (.int .i64 10) rfl rfl (run_loadVar_mid wz w.heap.size 0 23 zeroS _ (rangeOf RZ.out) Tryz.underlying23 rfl HZi.out)) rfl ⟨by rw [HT.out]; rfl, OZ.out.below B2.out (Nat.le_refl _)⟩
      · have _u := h8
        have e1 : ((c8.toNat : Int) == 32) = false := by rw [beq_eq_false_iff_ne]; intro h; exact h8 (UInt8.toNat_inj.1 (by have : (32 : UInt8).toNat = 32 := rfl; omega))
        have e3 : ((c8.toNat : Int) != 32) = true := by rw [bne, e1]; rfl
        have HT : Hid (R = (Sta.zero, 0, 10)) := Lib.hid (by
          rw [HQ.out]
          have hC : respR X = (Sta.zero, 10) := by unfold respR; rw [if_pos (.inr (.inl (by rw [g8]; simpa using h8)))]
          rw [hC]; simp)
        go_enter Tryz.func68, Tryz.ntmps68
        go_wp2_with (first
          | (go_at_call 99; (with_reducible refine SL.out.mono ?_); rintro x2 w2 ⟨rfl, q2, hq2⟩; have hb2 : Below w1.heap.size w1 w2 := (by rw [hq2]; exact below_drewN (Below.refl _ _) _); clear hq2; have B2 := Lib.hid (below_step B1.out hb2); have Z2 := Lib.hid (Z1.out.below hb2 Z1.out.lt); clear hb2)
          | (refine wpList_store_row rfl 23 _ _ rfl w.heap.size _ zeroS zeroS rfl rfl Z2.out rfl HZi.out (by simp [zeroS, Value.oneCell']) ?_; intro wz hrz hoz; have RZ := Lib.hid hrz; have OZ := Lib.hid hoz; clear hrz hoz))
        exact bodyPost_ret (v := .tuple #[.agg (zeroS : List Value).toArray, .int .i64 0, .int .i64 10]) (results_cell_tmps Tryz.results68 _ wz ⟨w.heap.size, 0, none⟩ rfl (.agg (zeroS : List Value).toArray) (.int .i64 0) (.int .i64 10) rfl rfl (run_loadVar_mid wz w.heap.size 0 23 zeroS _ (rangeOf RZ.out) Tryz.underlying23 rfl HZi.out)) rfl ⟨by rw [HT.out]; rfl, OZ.out.below B2.out (Nat.le_refl _)⟩
end Go.Proofs.YtniiadhhefgmcaaGreatDoor
