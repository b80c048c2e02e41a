/- Walks of layer 7's document: a line, a size line's. Condition: at most 10^9 octets. -/
import Derived.Test.YtefoaldpllnijaaDoorChu2
namespace Go.Proofs.YtefoaldpllnijaaDoor
open Go.RowKit IH
set_option maxRecDepth 100000
theorem fi10_hit {l : List UInt8} {k : Nat} (hno : ∀ c ∈ l.take k, c ≠ 10) (h : l[k]? = some 10) : l.findIdx? (· == 10) = some k := by
  obtain ⟨h1, h2⟩ := List.getElem?_eq_some_iff.1 h
  rw [List.findIdx?_eq_some_iff_getElem]
  refine ⟨h1, by simp [h2], fun j hj => ?_⟩
  have : l[j] ∈ l.take k := by
    rw [List.mem_take_iff_getElem]
    exact ⟨j, by omega, rfl⟩
  simpa using hno _ this
theorem fi10_none {l : List UInt8} (hno : ∀ c ∈ l, c ≠ 10) : l.findIdx? (· == 10) = none := by
  rw [List.findIdx?_eq_none_iff]
  intro c hc
  simpa using hno c hc
/-- What the document's line says, from place a on. -/
def lineT (a : Nat) (r : List UInt8 × Nat × Int) : List UInt8 × Int × Int :=
  if r.2.2 ≠ 0 then ([], 0, r.2.2) else if r.2.1 = 0 then ([], 0, 11) else (r.1, (a : Int) + r.2.1, 0)
set_option maxHeartbeats 4000000 in
theorem rline_any (A : Option Addr) (n c B : Nat) (l : List UInt8) (a : Nat) (w : World) (hin : SliceIn w B 1 A n c (bytesV l)) (ha : a ≤ n) (hn : n ≤ 1000000000) :
    Calls Tryd.prog 57 #[.slice A n c, .int .i64 a] w fun e w' => e = .returned (.tuple #[.string ⟨(lineT a (lineC (l.drop a))).1.toArray⟩, .int .i64 (lineT a (lineC (l.drop a))).2.1, .int .i64 (lineT a (lineC (l.drop a))).2.2]) ∧ ∃ q, w' = w.drewN q := by
  have hll : l.length = n := by have := hin.1; rw [bytesV_length, Nat.mul_one] at this; exact this
  have hnc := hin.2.1
  have Hin := Lib.hid hin
  clear hin
  have cells : 0 < n → ∃ b0 off, A = some ⟨b0, off, none⟩ ∧ ∀ (W : World) (q : Nat), W = w.drewN q → ∀ (i : Nat) (x : UInt8), l[i]? = some x → W.cell? ⟨b0, off + i, none⟩ = some (.int .u8 x.toNat) := by
    intro h0
    obtain ⟨b0, off, e, _, hc⟩ := Hin.out.2.2.2 h0
    refine ⟨b0, off, e, ?_⟩
    intro W q hW i x hx
    subst hW
    exact hc i (.int .u8 x.toNat) (by rw [bytesV_get, hx]; rfl)
  obtain ⟨T, hT0⟩ : ∃ T, lineT a (lineC (l.drop a)) = T := ⟨_, rfl⟩
  rw [hT0]
  have HT0 := Lib.hid hT0
  clear hT0
  go_enter Tryd.func57, Tryd.ntmps57
  go_wp2
  go_loopw [7] (fun v wr => ∃ i : Nat, v = .int .i64 i ∧ a ≤ i ∧ i ≤ n ∧ i ≤ a + 256 ∧ (∀ c ∈ (l.drop a).take (i - a), c ≠ 10) ∧ ∃ q, wr = w.drewN q) (fun v _ => n - (intOf v).toNat)
  case atStart => exact ⟨a, rfl, by omega, ha, by omega, by simp, 0, rfl⟩
  case round =>
    obtain ⟨i, rfl, hai, hin', hi256, hno, q, hq⟩ := hrel
    have Hno := Lib.hid hno
    clear hno
    have hq1 := Lib.hid hq
    clear hq
    by_cases hlt : i < n ∧ i < a + 256
    · obtain ⟨h1, h2⟩ := hlt
      obtain ⟨b0, off, rfl, cell⟩ := cells (by omega)
      clear cells
      obtain ⟨x, hx⟩ : ∃ x, l[i]? = some x := ⟨_, List.getElem?_eq_getElem (by omega)⟩
      have c0 := cell wr q hq1.out i x hx
      have j1 : (i : Int) < (n : Int) := by omega
      have j2 : (i : Int) < (a : Int) + 256 := by omega
      have hxa : (l.drop a)[i - a]? = some x := by rw [List.getElem?_drop, show a + (i - a) = i by omega]; exact hx
      by_cases h10 : x = 10
      · subst h10
        have hfi : ((l.drop a).take 256).findIdx? (· == 10) = some (i - a) := fi10_hit (by rw [List.take_take, show min (i - a) 256 = i - a by omega]; exact Hno.out) (by rw [List.getElem?_take, if_pos (by omega)]; exact hxa)
        have e10 : (((10 : UInt8).toNat : Int) == 10) = true := rfl
        by_cases hia : i = a
        · subst hia
          have hL : lineC (l.drop i) = ([], 0, 10) := by unfold lineC; rw [hfi]; simp
          have HT := Lib.hid (show T = ([], 0, 10) by rw [← HT0.out, hL]; rfl)
          clear hfi hL hxa hx cell HT0
          go_wp2
          go_ret3
          exact ⟨by rw [HT.out]; rfl, q, hq1.out⟩
        · obtain ⟨j, rfl⟩ : ∃ j, i = j + 1 := ⟨i - 1, by omega⟩
          have hiaI : ((j + 1 : Nat) : Int) ≠ (a : Int) := by omega
          have hiab : (((j + 1 : Nat) : Int) == (a : Int)) = false := by rw [beq_eq_false_iff_ne]; exact hiaI
          obtain ⟨y, hy⟩ : ∃ y, l[j]? = some y := ⟨_, List.getElem?_eq_getElem (by omega)⟩
          have c1 := cell wr q hq1.out j y hy
          have hya : (l.drop a)[j + 1 - a - 1]? = some y := by rw [List.getElem?_drop, show a + (j + 1 - a - 1) = j by omega]; exact hy
          have i1 : ((j + 1 : Nat) : Int) - 1 = (j : Int) := by omega
          have i2 : (j : Int) < (n : Int) := by omega
          have i3 : (j : Int) ≤ (n : Int) := by omega
          have i4 : (a : Int) ≤ (j : Int) := by omega
          have j3 : j ≤ c := by omega
          have j4 : j < n := by omega
          have j5 : a ≤ j := by omega
          by_cases h13 : y = 13
          · subst h13
            have hL : lineC (l.drop a) = ((l.drop a).take (j - a), j + 1 - a + 1, 0) := by
              unfold lineC; rw [hfi]; simp only
              rw [if_neg (by rintro (h | h); omega; exact h hya), show j + 1 - a - 1 = j - a by omega]
            have hT : lineT a (lineC (l.drop a)) = ((l.drop a).take (j - a), (j : Int) + 1 + 1, 0) := by
              rw [hL]; unfold lineT; simp only [ne_eq, not_true_eq_false, if_false]; rw [if_neg (by omega), show (a : Int) + ((j + 1 - a + 1 : Nat) : Int) = (j : Int) + 1 + 1 by omega]
            have HT := Lib.hid (show T = ((l.drop a).take (j - a), (j : Int) + 1 + 1, 0) by rw [← HT0.out, hT])
            have hca : ¬ c = a := by omega
            have hs2 := Hin.out.sub (a := a) (b := j) (by omega) (by omega) (some ⟨b0, off + a, none⟩) (fun _ => by simp [add_plain])
            simp only [Nat.mul_one] at hs2
            rw [show ((bytesV l).drop a).take (j - a) = bytesV ((l.drop a).take (j - a)) by simp [bytesV, List.map_take, List.map_drop]] at hs2
            have hcs := run_string_of (P := Tryd.prog) (hs2.drewN q) 22 9 5 Tryd.underlying22 Tryd.underlying5 Tryd.underlying9
            rw [← hq1.out] at hcs
            have e13 : (((13 : UInt8).toNat : Int) == 13) = true := rfl
            obtain ⟨X, hX⟩ : ∃ X : ByteArray, (⟨((l.drop a).take (j - a)).toArray⟩ : ByteArray) = X := ⟨_, rfl⟩
            rw [hX] at hcs
            have HX := Lib.hid hX
            clear hX
            clear hs2 hfi hL hT hxa hx cell hy hya HT0
            go_wp2
            go_ret3
            exact ⟨by rw [HT.out]; simp only [HX.out]; rfl, q, hq1.out⟩
          · have hL : lineC (l.drop a) = ([], 0, 10) := by
              unfold lineC; rw [hfi]; simp only
              rw [if_pos (.inr fun h => h13 (by rw [hya] at h; exact Option.some.inj h))]
            have e13 : ((y.toNat : Int) == 13) = false := by rw [beq_eq_false_iff_ne]; intro h; exact h13 (UInt8.toNat_inj.1 (by have : (13 : UInt8).toNat = 13 := rfl; omega))
            have n13 : ((y.toNat : Int) != 13) = true := by rw [bne, e13]; rfl
            have HT := Lib.hid (show T = ([], 0, 10) by rw [← HT0.out, hL]; rfl)
            clear hfi hL hxa hx cell hy hya h13 HT0
            go_wp2
            go_ret3
            exact ⟨by rw [HT.out]; rfl, q, hq1.out⟩
      · have e10 : ((x.toNat : Int) == 10) = false := by rw [beq_eq_false_iff_ne]; intro h; exact h10 (UInt8.toNat_inj.1 (by have : (10 : UInt8).toNat = 10 := rfl; omega))
        have hno2 : ∀ c ∈ (l.drop a).take (i + 1 - a), c ≠ 10 := by
          intro c hc
          rw [show i + 1 - a = (i - a) + 1 by omega, List.take_add_one, hxa] at hc
          rcases List.mem_append.1 hc with h | h
          · exact Hno.out c h
          · simp at h; subst h; exact h10
        have Hno2 := Lib.hid hno2
        clear hno2 hxa hx cell Hno h10
        go_wp2
        go_roundw
        case rel => exact ⟨i + 1, by go_num, by omega, by omega, by omega, Hno2.out, q, hq1.out⟩
        case measure => simp [intOf]; omega
    · have hend : (∀ c ∈ (l.drop a).take 256, c ≠ 10) := by
        intro c hc
        refine Hno.out c ?_
        by_cases h : i = a + 256
        · rw [show i - a = 256 by omega]; exact hc
        · rw [List.take_of_length_le (by rw [List.length_drop]; omega)]
          exact List.mem_of_mem_take hc
      have hfi := fi10_none hend
      have hways : (i < n ∧ ¬ (i : Int) < (a : Int) + 256) ∨ ¬ (i : Int) < (n : Int) := by omega
      replace HT0 := HT0.out
      have hL : lineC (l.drop a) = if 256 ≤ n - a then ([], 0, 12) else ([], 0, 0) := by unfold lineC; rw [hfi, List.length_drop, hll]
      rw [hL] at HT0
      clear hL hfi hend Hno cells
      by_cases h256 : 256 ≤ n - a
      · rw [if_pos h256] at HT0
        have HT := Lib.hid (show T = ([], 0, 12) by rw [← HT0]; rfl)
        clear HT0
        have k1 : (256 : Int) ≤ (n : Int) - (a : Int) := by omega
        rcases hways with ⟨hk1, hk2⟩ | hk1
        all_goals
          go_wp2
          go_ret3
          exact ⟨by rw [HT.out]; rfl, q, hq1.out⟩
      · rw [if_neg h256] at HT0
        have HT := Lib.hid (show T = ([], 0, 11) by rw [← HT0]; rfl)
        clear HT0
        have k1 : ¬ (256 : Int) ≤ (n : Int) - (a : Int) := by omega
        rcases hways with ⟨hk1, hk2⟩ | hk1
        all_goals
          go_wp2
          go_ret3
          exact ⟨by rw [HT.out]; rfl, q, hq1.out⟩
end Go.Proofs.YtefoaldpllnijaaDoor
