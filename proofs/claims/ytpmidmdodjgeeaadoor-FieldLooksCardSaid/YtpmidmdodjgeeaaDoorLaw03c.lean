/- Layer 3's laws: are fields short? No condition. -/
import Derived.Test.YtpmidmdodjgeeaaDoorLaw03b
namespace Go.Proofs.YtpmidmdodjgeeaaDoor
open Go.RowKit IH
set_option maxRecDepth 100000
def short1 (f : Fld) : Bool := decide (f.1.length ≤ 500) && decide (f.2.length ≤ 2000)
def shortL (most : Int) (fs : List Fld) : Bool := decide ((fs.length : Int) ≤ most) && fs.all short1
theorem shortL_small {most : Int} {L : List Fld} (h : shortL most L = true) : (L.length : Int) ≤ most ∧ smallF 2000 L := by
  simp only [shortL, Bool.and_eq_true, decide_eq_true_eq, List.all_eq_true, short1] at h
  exact ⟨h.1, fun f hf => by have := h.2 f hf; omega⟩
theorem smallF_mono {M M' : Nat} {L : List Fld} (h : smallF M L) (hM : M ≤ M') : smallF M' L := fun f hf => by have := h f hf; omega
set_option maxHeartbeats 4000000 in
theorem short_any (A : Option Addr) (n c : Nat) (L : List Fld) (most : Int) (B : Nat) (w : World) (hin : SliceIn w B 2 A n c (fldsV L)) (hmost : most ≤ 100000) :
    Calls Tryd.prog 17 #[.slice A n c, .int .i64 most] w fun e w' => e = .returned (.bool (shortL most L)) ∧ w = w' := by
  have hL := fld_count hin
  by_cases hn : most < (n : Int)
  · have hf : shortL most L = false := by unfold shortL; rw [hL, decide_eq_false (by omega)]; rfl
    rw [hf]
    go_enter Tryd.func17, Tryd.ntmps17
    go_wp2
    go_ret
    exact ⟨rfl, rfl⟩
  · have hnn : n ≤ 100000 := by omega
    have hnI : (n : Int) ≤ most := by omega
    have HL := Lib.hid hL
    clear hL hn
    go_enter Tryd.func17, Tryd.ntmps17
    go_wp2
    go_loop [5] (fun i => ∃ k : Nat, k ≤ n ∧ i = .int .i64 k ∧ (L.take k).all short1 = true) (fun i => n - (intOf i).toNat)
    case atStart => exact ⟨0, by omega, rfl, rfl⟩
    case round =>
      obtain ⟨k, hk, rfl, hall⟩ := hrel
      have Hall := Lib.hid hall
      clear hall
      by_cases hlt : k < n
      · obtain ⟨f, hf⟩ : ∃ f, L[k]? = some f := ⟨_, List.getElem?_eq_getElem (by rw [HL.out]; omega)⟩
        obtain ⟨b, off, rfl, hb, c0, c1⟩ := fld_at hin hf
        have hsn : (L.take (k + 1)).all short1 = short1 f := by rw [List.take_add_one, hf, List.all_append, Hall.out]; simp
        have z1 : (⟨f.1.toArray⟩ : ByteArray).size = f.1.length := size_mk _
        have z2 : (⟨f.2.toArray⟩ : ByteArray).size = f.2.length := size_mk _
        obtain ⟨X, hX⟩ : ∃ X : ByteArray, (⟨f.1.toArray⟩ : ByteArray) = X := ⟨_, rfl⟩
        obtain ⟨Y, hY⟩ : ∃ Y : ByteArray, (⟨f.2.toArray⟩ : ByteArray) = Y := ⟨_, rfl⟩
        have hs1 : short1 f = (decide (X.size ≤ 500) && decide (Y.size ≤ 2000)) := by unfold short1; rw [← z1, ← z2, hX, hY]
        rw [hs1] at hsn
        rw [hX] at c0
        rw [hY] at c1
        have hbad : short1 f = false → shortL most L = false := fun h => by
          unfold shortL
          have : L.all short1 = false := by rw [List.all_eq_false]; exact ⟨f, List.mem_of_getElem? hf, by simp [h]⟩
          rw [this, Bool.and_false]
        rw [hs1] at hbad
        have Hbad := Lib.hid hbad
        have Hsn := Lib.hid hsn
        clear hbad hsn hs1 z1 z2 hX hY hf Hall
        by_cases q1 : 500 < X.size
        · have hfin := Hbad.out (by rw [decide_eq_false (by omega)]; rfl)
          have HF := Lib.hid hfin
          have q1I : (500 : Int) < (X.size : Int) := by omega
          clear hfin q1
          go_wp2
          go_ret
          rw [HF.out]
          exact ⟨rfl, rfl⟩
        · by_cases q2 : 2000 < Y.size
          · have hfin := Hbad.out (by rw [decide_eq_false (p := Y.size ≤ 2000) (by omega), Bool.and_false])
            have HF := Lib.hid hfin
            have q1I : (X.size : Int) ≤ (500 : Int) := by omega
            have q2I : (2000 : Int) < (Y.size : Int) := by omega
            clear hfin q1 q2
            go_wp2
            go_ret
            rw [HF.out]
            exact ⟨rfl, rfl⟩
          · have hnx : (L.take (k + 1)).all short1 = true := by rw [Hsn.out, decide_eq_true (by omega), decide_eq_true (by omega)]; rfl
            have HN := Lib.hid hnx
            have q1I : (X.size : Int) ≤ (500 : Int) := by omega
            have q2I : (Y.size : Int) ≤ (2000 : Int) := by omega
            clear hnx q1 q2
            go_wp2
            go_round
            case rel => exact ⟨k + 1, by omega, by go_num, HN.out⟩
            case measure => simp [intOf]; omega
      · obtain rfl : k = n := by omega
        have hfin : shortL most L = true := by
          have h := Hall.out
          rw [List.take_of_length_le (by rw [HL.out]; omega)] at h
          unfold shortL
          rw [h, HL.out, decide_eq_true (by omega)]
          rfl
        have HF := Lib.hid hfin
        clear hfin
        go_wp2
        go_ret
        rw [HF.out]
        exact ⟨rfl, rfl⟩
end Go.Proofs.YtpmidmdodjgeeaaDoor
