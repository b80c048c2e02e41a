/- Walks of layers 1 and 6 for texts of any length that a text may have: tokens, what is seen, by the code and by the document. Condition: texts within 2^63 - 1 octets. -/
import Derived.Test.YtkodeeneljkgeaaDoorOct1
import Derived.Test.YtkodeeneljkgeaaDoorOct12
import Derived.Test.YtkodeeneljkgeaaDoorFie1
import Derived.Test.YtkodeeneljkgeaaDoorSta1
namespace Go.Proofs.YtkodeeneljkgeaaDoor
open Go.RowKit IH
set_option maxRecDepth 100000
def okV (c : UInt8) : Bool := decide (33 ≤ c.toNat) && decide (c.toNat ≤ 126)
theorem vis6_eq (l : List UInt8) : vis6 l = (!l.isEmpty && l.all okV) := rfl
theorem okV_step {l : List UInt8} {k : Nat} {c : UInt8} (hc : l[k]? = some c) (h : (l.take k).all okV = true) (hp : okV c = true) : (l.take (k + 1)).all okV = true := by
  rw [List.take_add_one, hc, List.all_append, h]; simp [hp]
theorem okV_bad {l : List UInt8} {k : Nat} {c : UInt8} (hc : l[k]? = some c) (hp : okV c = false) : vis6 l = false := by
  rw [vis6_eq]
  have : l.all okV = false := by
    rw [← Bool.not_eq_true]
    intro h
    have := List.all_eq_true.1 h c (List.mem_of_getElem? hc)
    rw [hp] at this; cases this
  rw [this, Bool.and_false]
theorem okV_end {l : List UInt8} (h : l.all okV = true) : vis6 l = !l.isEmpty := by rw [vis6_eq, h, Bool.and_true]
set_option maxHeartbeats 8000000 in
theorem allTok_big (s : ByteArray) (p : UInt8 → Bool) (hp : ∀ (c : UInt8) (w : World), Calls Tryd.prog 67 #[.int .u8 c.toNat] w fun e w' => e = .returned (.bool (p c)) ∧ w = w')
    (hs : s.size ≤ 9223372036854775807) (w : World) :
    Calls Tryd.prog 66 #[.string s, .func (.func 67) #[] #[]] w fun e w' => e = .returned (.bool (allOf p s.data.toList)) ∧ w = w' := by
  have HP := Lib.hid hp; clear hp
  go_enter Tryd.func66, Tryd.ntmps66
  go_wp2
  go_loop [8] (fun i => ∃ k : Nat, k ≤ s.size ∧ i = .int .i64 k ∧ allOf p (s.data.toList.take k) = true) (fun i => s.size - (intOf i).toNat)
  case atStart => exact ⟨0, by omega, rfl, by simp [allOf]⟩
  case round =>
    obtain ⟨k, hk, rfl, hix⟩ := hrel
    have Hix := Lib.hid hix; clear hix
    by_cases hlt : k < s.size
    · by_cases h1 : p s[k] = true
      · have H1 := Lib.hid h1; clear h1
        go_wp2_with fail
        refine (HP.out s[k] _).mono ?_
        rw [H1.out]
        rintro e w' ⟨rfl, rfl⟩
        go_wp2
        go_round
        case rel =>
          refine ⟨k + 1, by omega, by go_num, ?_⟩
          have := Hix.out
          unfold allOf at this ⊢
          rw [data_take_succ s k hlt, List.all_append, this]
          simp [H1.out]
        case measure => simp [intOf]; omega
      · have h2 : p s[k] = false := by simpa using h1
        have H2 := Lib.hid h2; clear h1 h2
        go_wp2_with fail
        refine (HP.out s[k] _).mono ?_
        rw [H2.out]
        rintro e w' ⟨rfl, rfl⟩
        go_wp2
        go_ret
        refine ⟨ret_bool ?_, rfl⟩
        unfold allOf
        rw [data_split s k hlt]
        simp [H2.out]
    · go_wp2
      go_ret
      refine ⟨ret_bool ?_, rfl⟩
      have := Hix.out
      rw [List.take_of_length_le (by rw [data_len]; omega)] at this
      rw [this]
set_option maxHeartbeats 8000000 in
theorem Token_big (s : ByteArray) (hs : s.size ≤ 9223372036854775807) (w : World) :
    Calls Tryd.prog 54 #[.string s] w fun e w' => e = .returned (.bool (token s.data.toList)) ∧ w = w' := by
  by_cases h : s.toList = []
  · have h' : token s.data.toList = false := by rw [ByteArray.toList_eq] at h; simp [token, h]
    rw [h']
    go_enter Tryd.func54, Tryd.ntmps54
    go_wp2
    go_ret
    exact ⟨rfl, rfl⟩
  · have h' : token s.data.toList = allOf isTchar s.data.toList := by
      rw [ByteArray.toList_eq] at h
      have : s.data.toList.isEmpty = false := by simpa using h
      unfold token; rw [this]; rfl
    have h2 : s.toList.isEmpty = false := by simpa using h
    rw [h']
    clear h h'
    go_enter Tryd.func54, Tryd.ntmps54
    go_wp2_with (go_at_call 66; refine (allTok_big s isTchar tok1_any hs _).mono ?_; rintro e w' ⟨rfl, rfl⟩)
    go_ret
    exact ⟨rfl, rfl⟩
set_option maxHeartbeats 8000000 in
theorem refToken_big (s : ByteArray) (hs : s.size ≤ 9223372036854775807) (w : World) :
    Calls Tryd.prog 28 #[.string s] w fun e w' => e = .returned (.bool (token s.data.toList)) ∧ Below w.heap.size w w' := by
  go_enter Tryd.func28, Tryd.ntmps28
  go_wp2
  go_loopw [3] (fun i wr => ∃ k : Nat, k ≤ s.size ∧ i = .int .i64 k ∧ allOf isTchar (s.data.toList.take k) = true ∧ Below w.heap.size w wr) (fun i _ => s.size - (intOf i).toNat)
  case atStart => exact ⟨0, by omega, rfl, by simp [allOf], Below.refl _ _⟩
  case round =>
    obtain ⟨k, hk, rfl, hix, hbel⟩ := hrel
    have Hix := Lib.hid hix; clear hix
    by_cases hlt : k < s.size
    · obtain ⟨c, hc⟩ : ∃ c, s[k] = c := ⟨_, rfl⟩
      have T := Lib.hid (refTchar_any c)
      by_cases h1 : isTchar c = true
      · have hnx : allOf isTchar (s.data.toList.take (k + 1)) = true := by
          have := Hix.out
          unfold allOf at this ⊢
          rw [data_take_succ s k hlt, List.all_append, this, hc]
          simp [h1]
        have Hnx := Lib.hid hnx
        rw [h1] at T
        clear hnx h1
        go_wp2_with (go_at_call 46; refine (T.out _).mono ?_; rintro e w2 ⟨rfl, hb⟩)
        go_roundw
        case rel => exact ⟨k + 1, by omega, by go_num, Hnx.out, hbel.trans (hb.mono hbel.size)⟩
        case measure => simp [intOf]; omega
      · have h2 : isTchar c = false := by simpa using h1
        have hfin : token s.data.toList = false := by
          unfold token allOf
          rw [data_split s k hlt, hc]
          simp [h2]
        have Hfin := Lib.hid hfin
        rw [h2] at T
        clear hfin h1 h2
        go_wp2_with (go_at_call 46; refine (T.out _).mono ?_; rintro e w2 ⟨rfl, hb⟩)
        go_ret
        rw [Hfin.out]
        exact ⟨rfl, hbel.trans (hb.mono hbel.size)⟩
    · have h1 := Hix.out
      rw [List.take_of_length_le (by rw [data_len]; omega)] at h1
      by_cases h0 : 0 < s.size
      · have hfin : token s.data.toList = true := by
          have : s.data.toList.isEmpty = false := by
            rw [List.isEmpty_eq_false_iff]
            exact fun h => by rw [← data_len, h] at h0; simp at h0
          unfold token; rw [this, h1]; rfl
        have Hfin := Lib.hid hfin
        clear hfin h1
        go_wp2
        go_ret
        rw [Hfin.out]
        exact ⟨rfl, hbel⟩
      · have hfin : token s.data.toList = false := by
          have : s.data.toList = [] := List.eq_nil_of_length_eq_zero (by rw [data_len]; omega)
          rw [this]; rfl
        have Hfin := Lib.hid hfin
        clear hfin h1
        go_wp2
        go_ret
        rw [Hfin.out]
        exact ⟨rfl, hbel⟩
set_option maxHeartbeats 8000000 in
theorem visible_big (s : ByteArray) (hs : s.size ≤ 9223372036854775807) (w : World) :
    Calls Tryd.prog 60 #[.string s] w fun e w' => e = .returned (.bool (vis6 s.data.toList)) ∧ w = w' := by
  obtain ⟨T, hT⟩ : ∃ T, vis6 s.data.toList = T := ⟨_, rfl⟩
  rw [hT]
  have HT := Lib.hid hT
  clear hT
  go_enter Tryd.func60, Tryd.ntmps60
  go_wp2
  go_loop [6] (fun i => ∃ k : Nat, i = .int .i64 k ∧ k ≤ s.size ∧ (s.data.toList.take k).all okV = true) (fun i => s.size - (intOf i).toNat)
  case atStart => exact ⟨0, rfl, by omega, rfl⟩
  case round =>
    obtain ⟨k, rfl, hk, hall⟩ := hrel
    by_cases hlt : k < s.size
    · obtain ⟨c, hc⟩ : ∃ c, s[k] = c := ⟨_, rfl⟩
      have hg : s.data.toList[k]? = some c := by rw [get_data s k hlt, hc]
      have hc255 : (c.toNat : Int) ≤ 255 := by have := c.toNat_lt; omega
      have hways : (c.toNat : Int) ≤ 32 ∨ (¬ (c.toNat : Int) ≤ 32 ∧ 127 ≤ (c.toNat : Int)) ∨ (¬ (c.toNat : Int) ≤ 32 ∧ ¬ 127 ≤ (c.toNat : Int)) := by omega
      rcases hways with h1 | ⟨h1, h2⟩ | ⟨h1, h2⟩
      · have HN := Lib.hid (HT.out.symm.trans (okV_bad hg (by simp [okV]; omega)))
        clear hg hall
        go_wp2
        go_ret
        exact ⟨by rw [HN.out]; rfl, rfl⟩
      · have HN := Lib.hid (HT.out.symm.trans (okV_bad hg (by simp [okV]; omega)))
        clear hg hall
        go_wp2
        go_ret
        exact ⟨by rw [HN.out]; rfl, rfl⟩
      · have HN := Lib.hid (okV_step hg hall (by simp [okV]; omega))
        clear hg hall
        go_wp2
        go_round
        case rel => exact ⟨k + 1, by go_num, by omega, HN.out⟩
        case measure => simp [intOf]; omega
    · rw [List.take_of_length_le (by rw [data_len]; omega)] at hall
      have HN := Lib.hid (HT.out.symm.trans (okV_end hall))
      clear hall
      by_cases h0 : s.data.toList = []
      · have e0 : (s.toList == []) = true := by rw [beq_iff_eq, ByteArray.toList_eq]; exact h0
        have e1 : (s.toList != []) = false := by rw [bne, e0]; rfl
        have HE := Lib.hid h0
        clear h0
        go_wp2
        go_ret
        exact ⟨by rw [HN.out, HE.out]; rfl, rfl⟩
      · have e0 : (s.toList == []) = false := by rw [beq_eq_false_iff_ne, ByteArray.toList_eq]; exact h0
        have e1 : (s.toList != []) = true := by rw [bne, e0]; rfl
        have HE : Hid (s.data.toList.isEmpty = false) := Lib.hid (by rw [List.isEmpty_eq_false_iff]; exact h0)
        clear h0
        go_wp2
        go_ret
        exact ⟨by rw [HN.out, HE.out]; rfl, rfl⟩
set_option maxHeartbeats 8000000 in
theorem rVisible_big (s : ByteArray) (hs : s.size ≤ 9223372036854775807) (w : World) :
    Calls Tryd.prog 47 #[.string s] w fun e w' => e = .returned (.bool (vis6 s.data.toList)) ∧ w = w' := by
  obtain ⟨T, hT⟩ : ∃ T, vis6 s.data.toList = T := ⟨_, rfl⟩
  rw [hT]
  have HT := Lib.hid hT
  clear hT
  go_enter Tryd.func47, Tryd.ntmps47
  go_wp2
  go_loop [3] (fun i => ∃ k : Nat, i = .int .i64 k ∧ k ≤ s.size ∧ (s.data.toList.take k).all okV = true) (fun i => s.size - (intOf i).toNat)
  case atStart => exact ⟨0, rfl, by omega, rfl⟩
  case round =>
    obtain ⟨k, rfl, hk, hall⟩ := hrel
    by_cases hlt : k < s.size
    · obtain ⟨c, hc⟩ : ∃ c, s[k] = c := ⟨_, rfl⟩
      have hg : s.data.toList[k]? = some c := by rw [get_data s k hlt, hc]
      have hc255 : (c.toNat : Int) ≤ 255 := by have := c.toNat_lt; omega
      have hways : (c.toNat : Int) < 33 ∨ (¬ (c.toNat : Int) < 33 ∧ 126 < (c.toNat : Int)) ∨ (¬ (c.toNat : Int) < 33 ∧ ¬ 126 < (c.toNat : Int)) := by omega
      rcases hways with h1 | ⟨h1, h2⟩ | ⟨h1, h2⟩
      · have HN := Lib.hid (HT.out.symm.trans (okV_bad hg (by simp [okV]; omega)))
        clear hg hall
        go_wp2
        go_ret
        exact ⟨by rw [HN.out]; rfl, rfl⟩
      · have HN := Lib.hid (HT.out.symm.trans (okV_bad hg (by simp [okV]; omega)))
        clear hg hall
        go_wp2
        go_ret
        exact ⟨by rw [HN.out]; rfl, rfl⟩
      · have HN := Lib.hid (okV_step hg hall (by simp [okV]; omega))
        clear hg hall
        go_wp2
        go_round
        case rel => exact ⟨k + 1, by go_num, by omega, HN.out⟩
        case measure => simp [intOf]; omega
    · rw [List.take_of_length_le (by rw [data_len]; omega)] at hall
      have HN := Lib.hid (HT.out.symm.trans (okV_end hall))
      have HE : Hid (s.data.toList.isEmpty = !decide (0 < (s.size : Int))) := Lib.hid (by
        have := data_len s
        cases hh : s.data.toList with
        | nil => rw [hh] at this; simp only [List.length_nil] at this; simp [← this]
        | cons a l => rw [hh] at this; simp only [List.length_cons] at this; simp; omega)
      clear hall
      go_wp2
      go_ret
      exact ⟨by rw [HN.out, HE.out]; simp, rfl⟩
end Go.Proofs.YtkodeeneljkgeaaDoor
