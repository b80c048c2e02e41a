/- The law OctetSplits, walked: it returns true. No condition. -/
import Derived.Test.YtamoebdfppjbkaaDoorAw01
import Derived.Test.YtamoebdfppjbkaaDoorOct6
namespace Go.Proofs.YtamoebdfppjbkaaDoor
open Go.RowKit IH
set_option maxRecDepth 100000

theorem total_short (L : List (List UInt8)) (h : ∀ l ∈ L, l.length ≤ 1000) : total L ≤ 1000 * L.length := by
  induction L with
  | nil => simp [total]
  | cons l L ih =>
    have h1 := h l (by simp)
    have h2 := ih fun x hx => h x (by simp [hx])
    unfold total at *
    rw [List.map_cons, List.sum_cons, List.length_cons]
    omega

set_option maxHeartbeats 2000000 in
theorem splits_walk (w : World) (A : Option Addr) (n c : Nat) (L : List (List UInt8)) (hin : SliceIn w w.heap.size 1 A n c (strsV L)) :
    Calls Tryd.prog 3 #[.slice A n c] w fun e w' => e = .returned (.bool true) ∧ Below w.heap.size w w' := by
  have hn : n ≤ 9223372036854775807 := by have := hin.2.1; have := hin.2.2.1; simp only [maxLen] at this; omega
  have hL : L.length = n := by have := hin.1; rw [strsV_length] at this; omega
  have HL := Lib.hid hL; clear hL
  by_cases h20 : 20 < n
  · go_enter Tryd.func3, Tryd.ntmps3
    go_wp2_with fail
    refine (awake01_any _).mono ?_
    rintro e w1 ⟨rfl, hb1⟩
    go_wp2_with fail
    refine (awake01_any _).mono ?_
    rintro e w2 ⟨rfl, hb2⟩
    go_wp2
    go_ret
    exact ⟨rfl, hb1.trans (hb2.mono hb1.size)⟩
  · go_enter Tryd.func3, Tryd.ntmps3
    go_wp2_with fail
    refine (awake01_any _).mono ?_
    rintro e w1 ⟨rfl, hb1⟩
    go_wp2_with fail
    have hin1 := hin.below hb1
    have HS := Lib.hid hin1; clear hin hin1
    go_loop [3] (fun i => ∃ k : Nat, k ≤ n ∧ i = .int .i64 k ∧ ∀ l ∈ L.take k, l.length ≤ 1000) (fun i => n - (intOf i).toNat)
    case atStart => exact ⟨0, by omega, rfl, by simp⟩
    case round =>
      obtain ⟨k, hk, rfl, hall⟩ := hrel
      have Hall := Lib.hid hall; clear hall
      by_cases hlt : k < n
      · obtain ⟨l, hl⟩ : ∃ l, L[k]? = some l := ⟨_, List.getElem?_eq_getElem (by have := HL.out; omega)⟩
        obtain ⟨b, off, rfl, hb, hc⟩ := HS.out.2.2.2 (by omega)
        have hcell : w1.cell? ⟨b, off + k, none⟩ = some (.string ⟨l.toArray⟩) := hc k _ (by rw [strsV_get, hl]; rfl)
        have Hl := Lib.hid hl; clear hl hc
        by_cases hlen : l.length ≤ 1000
        · have hnx : ∀ x ∈ L.take (k + 1), x.length ≤ 1000 := by
            rw [List.take_add_one, Hl.out]
            intro x hx
            rcases List.mem_append.1 hx with hx | hx
            · exact Hall.out x hx
            · simp at hx; subst hx; exact hlen
          have Hnx := Lib.hid hnx; clear hnx
          go_wp2
          go_round
          case rel => exact ⟨k + 1, by omega, by go_num, Hnx.out⟩
          case measure => simp [intOf]; omega
        · have hlen' : 1000 < l.length := by omega
          go_wp2
          go_ret
          exact ⟨rfl, hb1⟩
      · have hall := Hall.out
        rw [List.take_of_length_le (by have := HL.out; omega)] at hall
        have ht : total L ≤ 1000000000 := by have := total_short L hall; have := HL.out; omega
        clear hall Hall
        go_wp2_with fail
        have hwb : Below w.heap.size w w1 := hb1
        refine (Split_any _ _ _ _ _ (HS.out.more hb1.size) ht).mono ?_
        rintro e w2 ⟨v, rfl, hown, hb2⟩
        obtain ⟨A2, c2, rfl, hin2⟩ := own_slice hown
        have hs2 := (HS.out.more hb1.size).below hb2
        clear hown
        go_wp2_with fail
        refine (refSplit_any _ _ _ _ _ (hs2.more hb2.size) ht).mono ?_
        rintro e w3 ⟨v, rfl, hown, hb3⟩
        obtain ⟨A3, c3, rfl, hin3⟩ := own_slice hown
        have S := Lib.hid (Same_any _ _ _ _ _ _ _ _ _ _ _ (hin2.below hb3) hin3)
        rw [sameL_self] at S
        have hb13 : Below w.heap.size w w3 := hb1.trans ((hb2.trans (hb3.mono hb2.size)).mono hb1.size)
        clear hown hin2 hin3 hs2
        go_wp2_with (go_at_call 14; refine S.out.mono ?_; rintro e w4 ⟨rfl, nq, rfl⟩)
        go_ret
        exact ⟨rfl, below_drewN hb13 _⟩
end Go.Proofs.YtamoebdfppjbkaaDoor
