/- Walks of layer 1: tokens and values by the document's answer. No condition but that lengths are within bounds. -/
import Derived.Test.YtclgkkencpkjpaaGreatDoorOct2
namespace Go.Proofs.YtclgkkencpkjpaaGreatDoor
open Go.RowKit IH

def marksV : Array Value := #[.int .u8 33, .int .u8 35, .int .u8 36, .int .u8 37, .int .u8 38, .int .u8 39, .int .u8 42, .int .u8 43, .int .u8 45, .int .u8 46, .int .u8 94, .int .u8 95, .int .u8 96, .int .u8 124, .int .u8 126]
theorem marksV_at : ∀ k, k < 15 → marksV[k]? = some (.int .u8 (marks.getD k 0).toNat)
  | 0, _ | 1, _ | 2, _ | 3, _ | 4, _ | 5, _ | 6, _ | 7, _ | 8, _ | 9, _ | 10, _ | 11, _ | 12, _ | 13, _ | 14, _ => rfl
  | n + 15, h => by omega

set_option maxHeartbeats 2000000 in
theorem refTchar_any (c : UInt8) (w : World) :
    Calls Tryz.prog 65 #[.int .u8 c.toNat] w fun e w' => e = .returned (.bool (isTchar c)) ∧ Below w.heap.size w w' := by
  have hc : (c.toNat : Int) ≤ 255 := by have := c.toNat_lt; omega
  by_cases h : isLetter c = true
  · have h1 : isTchar c = true := by simp [isTchar, h]
    rw [h1]
    have h2 := h
    simp only [isLetter, Bool.or_eq_true, Bool.and_eq_true, decide_eq_true_eq] at h2
    rcases h2 with ((⟨h3, h4⟩ | ⟨h3, h4⟩) | ⟨h3, h4⟩)
    all_goals
      clear h h1
      go_enter Tryz.func65, Tryz.ntmps65
      go_wp2
      go_ret
      exact ⟨rfl, Below.refl _ _⟩
  · have h' : isLetter c = false := by simpa using h
    have h1 : isTchar c = isMark c := by simp [isTchar, h']
    rw [h1]
    clear h h1
    have hq : (c.toNat < 48) ∨ (57 < c.toNat ∧ c.toNat < 65) ∨ (90 < c.toNat ∧ c.toNat < 97) ∨ 122 < c.toNat := by
      simp [isLetter] at h'
      omega
    rcases hq with h1 | ⟨h1, h2⟩ | ⟨h1, h2⟩ | h1
    all_goals
      clear h'
      go_enter Tryz.func65, Tryz.ntmps65
      go_wp2
      have hb : Below w.heap.size w (w.alloc (.cells marksV 5)) := (Below.refl _ _).alloc (Nat.le_refl _) _
      have hcell : ∀ k, k < 15 → (w.alloc (.cells marksV 5)).cell? ⟨w.heap.size, k, none⟩ = some (.int .u8 (marks.getD k 0).toNat) := fun k hk => by
        rw [cell_of_row _ w.heap.size k marksV 5 (0, 0) (heap_alloc_new w _), marksV_at k hk]
      unfold marksV at hb hcell
      generalize w.alloc _ = W at *
      have HC := Lib.hid hcell; clear hcell
      go_loop [4] (fun i => ∃ k : Nat, k ≤ 15 ∧ i = .int .i64 k ∧ (marks.take k).contains c = false) (fun i => 15 - (intOf i).toNat)
      case atStart => exact ⟨0, by omega, rfl, by simp⟩
      case round =>
        obtain ⟨k, hk, rfl, hix⟩ := hrel
        have Hix := Lib.hid hix; clear hix
        by_cases hlt : k < 15
        · have hcell := HC.out k hlt
          have ht : marks.take (k + 1) = marks.take k ++ [marks.getD k 0] := by
            rw [List.take_add_one, List.getD_eq_getElem?_getD, List.getElem?_eq_getElem (by simpa [marks] using hlt)]; rfl
          have Ht := Lib.hid ht; clear ht
          generalize marks.getD k 0 = m at *
          by_cases hm : ((m.toNat : Int) == (c.toNat : Int)) = true
          · go_wp2
            go_ret
            refine ⟨ret_bool ?_, hb⟩
            have e : m = c := byte_is hm
            subst e
            have h1 : m ∈ marks.take (k + 1) := by rw [Ht.out]; simp
            exact (List.contains_iff_mem.2 (List.mem_of_mem_take h1)).symm
          · have hm' : ((m.toNat : Int) == (c.toNat : Int)) = false := by simpa using hm
            clear hm
            go_wp2
            go_round
            case rel =>
              refine ⟨k + 1, by omega, by go_num, ?_⟩
              rw [Ht.out, List.contains_append, Hix.out]
              have := byte_ne hm'
              simp; exact fun h => this h.symm
            case measure => simp [intOf]; omega
        · go_wp2
          go_ret
          refine ⟨ret_bool ?_, hb⟩
          have := Hix.out
          rw [List.take_of_length_le (by simp [marks]; omega)] at this
          unfold isMark; rw [this]

end Go.Proofs.YtclgkkencpkjpaaGreatDoor
