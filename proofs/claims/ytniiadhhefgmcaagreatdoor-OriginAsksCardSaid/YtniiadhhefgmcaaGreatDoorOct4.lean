/- Walks of layer 1: small letters. No condition but that lengths are within bounds. -/
import Derived.Test.YtniiadhhefgmcaaGreatDoorKt
import Derived.Test.YtniiadhhefgmcaaGreatDoorPm
namespace Go.Proofs.YtniiadhhefgmcaaGreatDoor
set_option maxRecDepth 100000
open Go.RowKit IH

/-- What Lower holds after k octets. -/
def lowTo (l : List UInt8) (k : Nat) : List UInt8 := (l.take k).map lowerC ++ l.drop k
theorem lowTo_length (l : List UInt8) (k : Nat) : (lowTo l k).length = l.length := by simp [lowTo]; omega
theorem lowTo_get (l : List UInt8) (k : Nat) (c : UInt8) (h : l[k]? = some c) : (lowTo l k)[k]? = some c := by
  have hk : k < l.length := (List.getElem?_eq_some_iff.1 h).1
  unfold lowTo
  rw [List.getElem?_append_right (by simp; omega)]
  simp [Nat.min_eq_left (Nat.le_of_lt hk), h]
theorem lowTo_succ (l : List UInt8) (k : Nat) (c : UInt8) (h : l[k]? = some c) : lowTo l (k + 1) = (lowTo l k).set k (lowerC c) := by
  obtain ⟨hk, rfl⟩ := List.getElem?_eq_some_iff.1 h
  unfold lowTo
  rw [List.set_append_right _ _ (by simp; omega)]
  simp only [List.length_map, List.length_take, Nat.min_eq_left (Nat.le_of_lt hk), Nat.sub_self]
  have e : (l.drop k).set 0 (lowerC l[k]) = lowerC l[k] :: l.drop (k + 1) := by rw [List.drop_eq_getElem_cons hk]; rfl
  rw [List.take_succ_eq_append_getElem hk, List.map_append, e]
  simp
theorem lowTo_same (l : List UInt8) (k : Nat) (c : UInt8) (h : l[k]? = some c) (hc : lowerC c = c) : lowTo l (k + 1) = lowTo l k := by
  rw [lowTo_succ l k c h, hc]
  have := lowTo_get l k c h
  obtain ⟨hk, e⟩ := List.getElem?_eq_some_iff.1 this
  conv => lhs; rw [← e]
  exact List.set_getElem_self hk
theorem bytesV_set (l : List UInt8) (k : Nat) (c : UInt8) : (bytesV l).set k (byteV c) = bytesV (l.set k c) := by simp [bytesV, List.map_set]

set_option maxHeartbeats 1000000 in
theorem Lower_any (s : ByteArray) (hs : s.size ≤ 1000000000) (w : World) :
    Calls Tryz.prog 65 #[.string s] w fun e w' => e = .returned (.string ⟨(lower s.data.toList).toArray⟩) ∧ Below w.heap.size w w' := by
  have hcv := Lib.run_convert_string_bytes (P := Tryz.prog) w 9 25 5 s Tryz.underlying9 Tryz.underlying25 Tryz.underlying5
  have hrow := RowAt.bytes w 5 s
  have hbel := below_bytesWorld w 5 s
  have hcap := Nat.le_trans (Nat.le_refl _) (grownCap_le_maxLen w s.size 0 5 (by simp only [maxLen]; omega))
  have hcap2 := grownCap_ge w s.size 0 5
  generalize Lib.bytesWorld w 5 s = W at *
  generalize grownCap w s.size 0 5 = C at *
  go_enter Tryz.func65, Tryz.ntmps65
  go_wp2
  clear hcv
  go_loopw [10] (fun i wr => ∃ k : Nat, k ≤ s.size ∧ i = .int .i64 k ∧ RowAt wr w.heap.size 5 (bytesV (lowTo s.data.toList k)) ∧ Below w.heap.size w wr) (fun i _ => s.size - (intOf i).toNat)
  case atStart => exact ⟨0, by omega, rfl, by simpa [lowTo] using hrow, hbel⟩
  case round =>
    obtain ⟨k, hk, rfl, hrow, hbel⟩ := hrel
    have Hrow := Lib.hid hrow; clear hrow
    by_cases hlt : k < s.size
    · obtain ⟨c, hc⟩ : ∃ c, s.data.toList[k]? = some c := ⟨_, get_data s k hlt⟩
      have hcell : wr.cell? ⟨w.heap.size, k, none⟩ = some (.int .u8 c.toNat) := Hrow.out.cell (by rw [bytesV_get, lowTo_get _ _ _ hc]; rfl)
      have hfr : wr.frozen? ⟨w.heap.size, k, none⟩ = false := Hrow.out.frozen (by rw [bytesV_length, lowTo_length, data_len]; exact hlt)
      have Hc := Lib.hid hc; clear hc
      have hq : c.toNat < 65 ∨ (65 ≤ c.toNat ∧ c.toNat ≤ 90) ∨ 90 < c.toNat := by omega
      have hc255 : c.toNat ≤ 255 := by have := c.toNat_lt; omega
      rcases hq with h1 | ⟨h1, h2⟩ | h1
      · go_wp2
        go_roundw
        case rel =>
          refine ⟨k + 1, by omega, by go_num, ?_, hbel⟩
          rw [lowTo_same _ _ _ Hc.out (by unfold lowerC; rw [if_neg (by simp; omega)])]
          exact Hrow.out
        case measure => simp [intOf]; omega
      · go_wp2
        go_roundw
        case rel =>
          refine ⟨k + 1, by omega, by go_num, ?_, hbel.setCell (Nat.le_refl _) _⟩
          have e : Value.int .u8 ((c.toNat : Int) + 97 - 65) = byteV (lowerC c) := by
            unfold lowerC byteV
            rw [if_pos (by simp; omega)]
            have : (c + 32).toNat = c.toNat + 32 := by rw [UInt8.toNat_add]; simp; omega
            rw [this]; congr 1; omega
          rw [e, lowTo_succ _ _ _ Hc.out, ← bytesV_set]
          exact Hrow.out.set_ (by rw [bytesV_length, lowTo_length, data_len]; exact hlt) _
        case measure => simp [intOf]; omega
      · go_wp2
        go_roundw
        case rel =>
          refine ⟨k + 1, by omega, by go_num, ?_, hbel⟩
          rw [lowTo_same _ _ _ Hc.out (by unfold lowerC; rw [if_neg (by simp; omega)])]
          exact Hrow.out
        case measure => simp [intOf]; omega
    · have e : lowTo s.data.toList k = lower s.data.toList := by
        unfold lowTo lower
        rw [List.take_of_length_le (by rw [data_len]; omega), List.drop_eq_nil_of_le (by rw [data_len]; omega), List.append_nil]
      have hsl := Hrow.out.slice (size := 1) (n := s.size) (c := C) (by rw [bytesV_length, lowTo_length, data_len, Nat.mul_one]) hcap2 hcap
      rw [e] at hsl
      have hcs := run_string_of (P := Tryz.prog) hsl 25 9 5 Tryz.underlying25 Tryz.underlying5 Tryz.underlying9
      clear e hsl
      go_wp2
      go_ret
      exact ⟨rfl, hbel⟩

theorem lower_take (l : List UInt8) (k : Nat) (c : UInt8) (h : l[k]? = some c) : lower (l.take (k + 1)) = lower (l.take k) ++ [lowerC c] := by
  obtain ⟨hk, rfl⟩ := List.getElem?_eq_some_iff.1 h
  unfold lower
  rw [List.take_succ_eq_append_getElem hk, List.map_append]
  rfl
theorem lowerC_up (c : UInt8) (h1 : 65 ≤ c.toNat) (h2 : c.toNat ≤ 90) : Value.int .u8 ((c.toNat : Int) + 32) = byteV (lowerC c) := by
  unfold lowerC byteV
  rw [if_pos (by simp; omega)]
  have : (c + 32).toNat = c.toNat + 32 := by rw [UInt8.toNat_add]; simp; omega
  rw [this]; congr 1
theorem lowerC_same (c : UInt8) (h : c.toNat < 65 ∨ 90 < c.toNat) : Value.int .u8 (c.toNat : Int) = byteV (lowerC c) := by
  unfold lowerC byteV
  rw [if_neg (by simp; omega)]

set_option maxHeartbeats 1000000 in
theorem refLower_any (s : ByteArray) (hs : s.size ≤ 1000000000) (w : World) :
    Calls Tryz.prog 67 #[.string s] w fun e w' => e = .returned (.string ⟨(lower s.data.toList).toArray⟩) ∧ Below w.heap.size w w' := by
  go_enter Tryz.func67, Tryz.ntmps67
  go_wp2
  go_loopw [3, 4] (fun v i wr => ∃ k : Nat, k ≤ s.size ∧ i = .int .i64 k ∧ wr.ownsRow w.heap.size 5 1 v k (bytesV (lower (s.data.toList.take k))) ∧ Below w.heap.size w wr) (fun _ i _ => s.size - (intOf i).toNat)
  case atStart => exact ⟨0, by omega, rfl, World.ownsRow_nil _ _ _ _, Below.refl _ _⟩
  case round =>
    obtain ⟨k, hk, rfl, hrow, hbel⟩ := hrel
    have Hrow := Lib.hid hrow; clear hrow
    by_cases hlt : k < s.size
    · obtain ⟨c, hc⟩ : ∃ c, s[k] = c := ⟨_, rfl⟩
      have hl := lower_take s.data.toList k c (by rw [← hc]; exact get_data s k hlt)
      have Hl := Lib.hid hl; clear hl
      have hc255 : c.toNat ≤ 255 := by have := c.toNat_lt; omega
      have hq : c.toNat < 65 ∨ (65 ≤ c.toNat ∧ c.toNat ≤ 90) ∨ 90 < c.toNat := by omega
      rcases hq with h1 | ⟨h1, h2⟩ | h1
      · have e := lowerC_same c (.inl h1)
        have E := Lib.hid e; clear e
        go_wp2_with (at_builtin; refine wpList_app u8_ty rfl _ _ rfl w.heap.size _ k _ rfl Hrow.out 1 1 _ rfl (by rfl) (one1 _ rfl) (by omega) (by simp only [maxLen]; omega) hbel.size ?_; intro v' w' hown' hgr)
        go_roundw
        case rel =>
          refine ⟨k + 1, by omega, by go_num, ?_, hbel.grown hgr hbel.size (fun g hg => (Hrow.out.lt g hg).1)⟩
          rw [Hl.out, bytesV_append]
          rw [E.out] at hown'
          exact hown'
        case measure => simp [intOf]; omega
      · have e := lowerC_up c h1 h2
        have E := Lib.hid e; clear e
        go_wp2_with (at_builtin; refine wpList_app u8_ty rfl _ _ rfl w.heap.size _ k _ rfl Hrow.out 1 1 _ rfl (by rfl) (one1 _ rfl) (by omega) (by simp only [maxLen]; omega) hbel.size ?_; intro v' w' hown' hgr)
        go_roundw
        case rel =>
          refine ⟨k + 1, by omega, by go_num, ?_, hbel.grown hgr hbel.size (fun g hg => (Hrow.out.lt g hg).1)⟩
          rw [Hl.out, bytesV_append]
          rw [E.out] at hown'
          exact hown'
        case measure => simp [intOf]; omega
      · have e := lowerC_same c (.inr h1)
        have E := Lib.hid e; clear e
        go_wp2_with (at_builtin; refine wpList_app u8_ty rfl _ _ rfl w.heap.size _ k _ rfl Hrow.out 1 1 _ rfl (by rfl) (one1 _ rfl) (by omega) (by simp only [maxLen]; omega) hbel.size ?_; intro v' w' hown' hgr)
        go_roundw
        case rel =>
          refine ⟨k + 1, by omega, by go_num, ?_, hbel.grown hgr hbel.size (fun g hg => (Hrow.out.lt g hg).1)⟩
          rw [Hl.out, bytesV_append]
          rw [E.out] at hown'
          exact hown'
        case measure => simp [intOf]; omega
    · obtain ⟨A, C, rfl, hsl⟩ := own_slice Hrow.out
      have e : s.data.toList.take k = s.data.toList := List.take_of_length_le (by rw [data_len]; omega)
      rw [e] at hsl
      have hcs := run_string_of (P := Tryz.prog) hsl 25 9 5 Tryz.underlying25 Tryz.underlying5 Tryz.underlying9
      clear e hsl
      go_wp2
      go_ret
      exact ⟨rfl, hbel⟩
end Go.Proofs.YtniiadhhefgmcaaGreatDoor
