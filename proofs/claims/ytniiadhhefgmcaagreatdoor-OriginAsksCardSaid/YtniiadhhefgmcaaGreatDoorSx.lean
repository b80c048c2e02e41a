/- Sx: several texts, one behind the other. -/
import Derived.Test.YtniiadhhefgmcaaGreatDoorOv
import Derived.Test.YtniiadhhefgmcaaGreatDoorFb
import Derived.Test.YtniiadhhefgmcaaGreatDoorSta1
import Derived.Test.YtniiadhhefgmcaaGreatDoorOct4
/- Walks of layers 1 and 6 for texts of any length that a text may have: tokens, what is seen, by the code and by the document. Condition: texts within 2^63 - 1 octets. -/
namespace Go.Proofs.YtniiadhhefgmcaaGreatDoor
open Go.RowKit IH
set_option maxRecDepth 100000
def okV (c : UInt8) : Bool := decide (33 ≤ c.toNat) && decide (c.toNat ≤ 126)
theorem vis6_eq (l : List UInt8) : vis6 l = (!l.isEmpty && l.all okV) := rfl
theorem okV_step {l : List UInt8} {k : Nat} {c : UInt8} (hc : l[k]? = some c) (h : (l.take k).all okV = true) (hp : okV c = true) : (l.take (k + 1)).all okV = true := by
  rw [List.take_add_one, hc, List.all_append, h]; simp [hp]
theorem okV_bad {l : List UInt8} {k : Nat} {c : UInt8} (hc : l[k]? = some c) (hp : okV c = false) : vis6 l = false := by
  rw [vis6_eq]
  have : l.all okV = false := by
    rw [← Bool.not_eq_true]
    intro h
    have := List.all_eq_true.1 h c (List.mem_of_getElem? hc)
    rw [hp] at this; cases this
  rw [this, Bool.and_false]
theorem okV_end {l : List UInt8} (h : l.all okV = true) : vis6 l = !l.isEmpty := by rw [vis6_eq, h, Bool.and_true]
set_option maxHeartbeats 8000000 in
theorem allTok_big (s : ByteArray) (p : UInt8 → Bool) (hp : ∀ (c : UInt8) (w : World), Calls Tryz.prog 162 #[.int .u8 c.toNat] w fun e w' => e = .returned (.bool (p c)) ∧ w = w')
    (hs : s.size ≤ 9223372036854775807) (w : World) :
    Calls Tryz.prog 161 #[.string s, .func (.func 162) #[] #[]] w fun e w' => e = .returned (.bool (allOf p s.data.toList)) ∧ w = w' := by
  have HP := Lib.hid hp; clear hp
  go_enter Tryz.func161, Tryz.ntmps161
  go_wp2
  go_loop [8] (fun i => ∃ k : Nat, k ≤ s.size ∧ i = .int .i64 k ∧ allOf p (s.data.toList.take k) = true) (fun i => s.size - (intOf i).toNat)
  case atStart => exact ⟨0, by omega, rfl, by simp [allOf]⟩
  case round =>
    obtain ⟨k, hk, rfl, hix⟩ := hrel
    have Hix := Lib.hid hix; clear hix
    by_cases hlt : k < s.size
    · by_cases h1 : p s[k] = true
      · have H1 := Lib.hid h1; clear h1
        go_wp2_with fail
        refine (HP.out s[k] _).mono ?_
        rw [H1.out]
        rintro e w' ⟨rfl, rfl⟩
        go_wp2
        go_round
        case rel =>
          refine ⟨k + 1, by omega, by go_num, ?_⟩
          have := Hix.out
          unfold allOf at this ⊢
          rw [data_take_succ s k hlt, List.all_append, this]
          simp [H1.out]
        case measure => simp [intOf]; omega
      · have h2 : p s[k] = false := by simpa using h1
        have H2 := Lib.hid h2; clear h1 h2
        go_wp2_with fail
        refine (HP.out s[k] _).mono ?_
        rw [H2.out]
        rintro e w' ⟨rfl, rfl⟩
        go_wp2
        go_ret
        refine ⟨ret_bool ?_, rfl⟩
        unfold allOf
        rw [data_split s k hlt]
        simp [H2.out]
    · go_wp2
      go_ret
      refine ⟨ret_bool ?_, rfl⟩
      have := Hix.out
      rw [List.take_of_length_le (by rw [data_len]; omega)] at this
      rw [this]
set_option maxHeartbeats 8000000 in
theorem Token_big (s : ByteArray) (hs : s.size ≤ 9223372036854775807) (w : World) :
    Calls Tryz.prog 141 #[.string s] w fun e w' => e = .returned (.bool (token s.data.toList)) ∧ w = w' := by
  by_cases h : s.toList = []
  · have h' : token s.data.toList = false := by rw [ByteArray.toList_eq] at h; simp [token, h]
    rw [h']
    go_enter Tryz.func141, Tryz.ntmps141
    go_wp2
    go_ret
    exact ⟨rfl, rfl⟩
  · have h' : token s.data.toList = allOf isTchar s.data.toList := by
      rw [ByteArray.toList_eq] at h
      have : s.data.toList.isEmpty = false := by simpa using h
      unfold token; rw [this]; rfl
    have h2 : s.toList.isEmpty = false := by simpa using h
    rw [h']
    clear h h'
    go_enter Tryz.func141, Tryz.ntmps141
    go_wp2_with (go_at_call 161; refine (allTok_big s isTchar tok1_any hs _).mono ?_; rintro e w' ⟨rfl, rfl⟩)
    go_ret
    exact ⟨rfl, rfl⟩
set_option maxHeartbeats 8000000 in
theorem visible_big (s : ByteArray) (hs : s.size ≤ 9223372036854775807) (w : World) :
    Calls Tryz.prog 142 #[.string s] w fun e w' => e = .returned (.bool (vis6 s.data.toList)) ∧ w = w' := by
  obtain ⟨T, hT⟩ : ∃ T, vis6 s.data.toList = T := ⟨_, rfl⟩
  rw [hT]
  have HT := Lib.hid hT
  clear hT
  go_enter Tryz.func142, Tryz.ntmps142
  go_wp2
  go_loop [6] (fun i => ∃ k : Nat, i = .int .i64 k ∧ k ≤ s.size ∧ (s.data.toList.take k).all okV = true) (fun i => s.size - (intOf i).toNat)
  case atStart => exact ⟨0, rfl, by omega, rfl⟩
  case round =>
    obtain ⟨k, rfl, hk, hall⟩ := hrel
    by_cases hlt : k < s.size
    · obtain ⟨c, hc⟩ : ∃ c, s[k] = c := ⟨_, rfl⟩
      have hg : s.data.toList[k]? = some c := by rw [get_data s k hlt, hc]
      have hc255 : (c.toNat : Int) ≤ 255 := by have := c.toNat_lt; omega
      have hways : (c.toNat : Int) ≤ 32 ∨ (¬ (c.toNat : Int) ≤ 32 ∧ 127 ≤ (c.toNat : Int)) ∨ (¬ (c.toNat : Int) ≤ 32 ∧ ¬ 127 ≤ (c.toNat : Int)) := by omega
      rcases hways with h1 | ⟨h1, h2⟩ | ⟨h1, h2⟩
      · have HN := Lib.hid (HT.out.symm.trans (okV_bad hg (by simp [okV]; omega)))
        clear hg hall
        go_wp2
        go_ret
        exact ⟨by rw [HN.out]; rfl, rfl⟩
      · have HN := Lib.hid (HT.out.symm.trans (okV_bad hg (by simp [okV]; omega)))
        clear hg hall
        go_wp2
        go_ret
        exact ⟨by rw [HN.out]; rfl, rfl⟩
      · have HN := Lib.hid (okV_step hg hall (by simp [okV]; omega))
        clear hg hall
        go_wp2
        go_round
        case rel => exact ⟨k + 1, by go_num, by omega, HN.out⟩
        case measure => simp [intOf]; omega
    · rw [List.take_of_length_le (by rw [data_len]; omega)] at hall
      have HN := Lib.hid (HT.out.symm.trans (okV_end hall))
      clear hall
      by_cases h0 : s.data.toList = []
      · have e0 : (s.toList == []) = true := by rw [beq_iff_eq, ByteArray.toList_eq]; exact h0
        have e1 : (s.toList != []) = false := by rw [bne, e0]; rfl
        have HE := Lib.hid h0
        clear h0
        go_wp2
        go_ret
        exact ⟨by rw [HN.out, HE.out]; rfl, rfl⟩
      · have e0 : (s.toList == []) = false := by rw [beq_eq_false_iff_ne, ByteArray.toList_eq]; exact h0
        have e1 : (s.toList != []) = true := by rw [bne, e0]; rfl
        have HE : Hid (s.data.toList.isEmpty = false) := Lib.hid (by rw [List.isEmpty_eq_false_iff]; exact h0)
        clear h0
        go_wp2
        go_ret
        exact ⟨by rw [HN.out, HE.out]; rfl, rfl⟩
end Go.Proofs.YtniiadhhefgmcaaGreatDoor

/- Walks of layer 6: which first lines may stand, by the code and by the document. Condition: texts within 10^9 octets. -/
namespace Go.Proofs.YtniiadhhefgmcaaGreatDoor
open Go.RowKit IH
set_option maxRecDepth 100000
/-- A first line's cells. -/
def staC (s : Sta) : List Value := [.string ⟨s.method.toArray⟩, .string ⟨s.target.toArray⟩, .int .i64 s.status, .string ⟨s.reason.toArray⟩, .int .i64 s.minor]
structure StaS (s : Sta) : Prop where
  m : s.method.length ≤ 9223372036854775807
  t : s.target.length ≤ 9223372036854775807
  r : s.reason.length ≤ 1000000000
theorem emp_isEmpty (l : List UInt8) : ((⟨l.toArray⟩ : ByteArray).toList == []) = l.isEmpty := by
  rw [ByteArray.toList_eq]
  cases l with
  | nil => rfl
  | cons a r => simp
set_option maxHeartbeats 8000000 in
theorem asks_any (s : Sta) (hs : StaS s) (w : World) :
    Calls Tryz.prog 124 #[.agg (staC s).toArray] w fun e w' => e = .returned (.bool (asks6 s)) ∧ Below w.heap.size w w' := by
  have TK := fun w => Token_big ⟨s.method.toArray⟩ (by rw [size_mk]; exact hs.m) w
  have VI := fun w => visible_big ⟨s.target.toArray⟩ (by rw [size_mk]; exact hs.t) w
  obtain ⟨b1, hb1⟩ : ∃ b, token s.method = b := ⟨_, rfl⟩
  obtain ⟨b2, hb2⟩ : ∃ b, vis6 s.target = b := ⟨_, rfl⟩
  have hz1 : (⟨s.method.toArray⟩ : ByteArray).size = s.method.length := size_mk _
  have hz2 : (⟨s.target.toArray⟩ : ByteArray).size = s.target.length := size_mk _
  have he : asks6 s = (b1 && decide ((s.method.length : Int) ≤ 32) && b2 && decide ((s.target.length : Int) ≤ 8000) && (s.status == 0) && s.reason.isEmpty) := by
    unfold asks6
    have q1 : decide (s.method.length ≤ 32) = decide ((s.method.length : Int) ≤ 32) := by rw [decide_eq_decide]; omega
    have q2 : decide (s.target.length ≤ 8000) = decide ((s.target.length : Int) ≤ 8000) := by rw [decide_eq_decide]; omega
    have q3 : decide (s.status = 0) = (s.status == 0) := by rw [Bool.eq_iff_iff]; simp
    rw [hb1, hb2, q1, q2, q3]
  rw [he]
  unfold staC
  rw [hb1] at TK
  rw [hb2] at VI
  have hee := emp_isEmpty s.reason
  rw [← hee]
  obtain ⟨M, hM⟩ : ∃ M : ByteArray, (⟨s.method.toArray⟩ : ByteArray) = M := ⟨_, rfl⟩
  obtain ⟨T, hT⟩ : ∃ M : ByteArray, (⟨s.target.toArray⟩ : ByteArray) = M := ⟨_, rfl⟩
  obtain ⟨R, hR⟩ : ∃ M : ByteArray, (⟨s.reason.toArray⟩ : ByteArray) = M := ⟨_, rfl⟩
  rw [hM] at TK hz1
  rw [hT] at VI hz2
  rw [hM, hT, hR, ← hz1, ← hz2]
  obtain ⟨S, hS⟩ : ∃ S, s.status = S := ⟨_, rfl⟩
  obtain ⟨mi, hmi⟩ : ∃ S, s.minor = S := ⟨_, rfl⟩
  rw [hS, hmi]
  replace TK := Lib.hid TK
  replace VI := Lib.hid VI
  have B0 := Lib.hid (below_al w (.cells #[.string M, .string T, .int .i64 S, .string R, .int .i64 mi] 23))
  clear hb1 hb2 he hee hM hT hR hz1 hz2 hS hmi hs
  cases b1
  all_goals
    go_enter Tryz.func124, Tryz.ntmps124
    go_wp2_with (first
      | (go_at_call 141; (with_reducible refine (TK.out _).mono ?_); rintro e w2 ⟨rfl, rfl⟩)
      | (go_at_call 142; (with_reducible refine (VI.out _).mono ?_); rintro e w3 ⟨rfl, rfl⟩))
    all_goals (go_ret; exact ⟨ret_bool (by first | (simp [*]; done) | (simp [*]; omega)), below_al w _⟩)
set_option maxHeartbeats 8000000 in
theorem answers_any (s : Sta) (hs : StaS s) (w : World) :
    Calls Tryz.prog 125 #[.agg (staC s).toArray] w fun e w' => e = .returned (.bool (answers6 s)) ∧ Below w.heap.size w w' := by
  have VA := fun w => Value_any ⟨s.reason.toArray⟩ (by rw [size_mk]; exact hs.r) w
  obtain ⟨b1, hb1⟩ : ∃ b, value s.reason = b := ⟨_, rfl⟩
  have hz1 : (⟨s.reason.toArray⟩ : ByteArray).size = s.reason.length := size_mk _
  have he : answers6 s = (s.method.isEmpty && s.target.isEmpty && decide (100 ≤ s.status) && decide (s.status ≤ 999) && b1 && decide ((s.reason.length : Int) ≤ 200)) := by
    unfold answers6
    have q1 : decide (s.reason.length ≤ 200) = decide ((s.reason.length : Int) ≤ 200) := by rw [decide_eq_decide]; omega
    rw [hb1, q1]
  rw [he]
  unfold staC
  rw [hb1] at VA
  rw [← emp_isEmpty s.method, ← emp_isEmpty s.target]
  obtain ⟨M, hM⟩ : ∃ M : ByteArray, (⟨s.method.toArray⟩ : ByteArray) = M := ⟨_, rfl⟩
  obtain ⟨T, hT⟩ : ∃ M : ByteArray, (⟨s.target.toArray⟩ : ByteArray) = M := ⟨_, rfl⟩
  obtain ⟨R, hR⟩ : ∃ M : ByteArray, (⟨s.reason.toArray⟩ : ByteArray) = M := ⟨_, rfl⟩
  rw [hR] at VA hz1
  rw [hM, hT, hR, ← hz1]
  obtain ⟨S, hS⟩ : ∃ S, s.status = S := ⟨_, rfl⟩
  obtain ⟨mi, hmi⟩ : ∃ S, s.minor = S := ⟨_, rfl⟩
  rw [hS, hmi]
  replace VA := Lib.hid VA
  have c3 : ∀ w2, Below (w.heap.size + 1) (w.alloc (.cells #[.string M, .string T, .int .i64 S, .string R, .int .i64 mi] 23)) w2 → w2.cell? ⟨w.heap.size, 3, none⟩ = some (.string R) := fun w2 hb => ((RowAt.new w 23 [.string M, .string T, .int .i64 S, .string R, .int .i64 mi]).below hb (Nat.lt_succ_self _)).cell (j := 3) rfl
  clear hb1 he hM hT hR hz1 hS hmi hs
  cases b1
  all_goals
    go_enter Tryz.func125, Tryz.ntmps125
    go_wp2_with (go_at_call 143; (with_reducible refine (VA.out _).mono ?_); rintro e w2 ⟨rfl, hb2⟩; have d3 := c3 w2 (by simpa using hb2); have B2 := Lib.hid (below_al_step hb2); clear hb2)
    all_goals (go_ret; exact ⟨ret_bool (by first | (simp [*]; done) | (simp [*]; omega)), by first | exact B2.out | exact below_al w _⟩)
set_option maxHeartbeats 8000000 in
theorem right6_any (s : Sta) (hs : StaS s) (w : World) :
    Calls Tryz.prog 105 #[.agg (staC s).toArray] w fun e w' => e = .returned (.bool (right6 s)) ∧ Below w.heap.size w w' := by
  have AS := Lib.hid (fun w => asks_any s hs w)
  have AN := Lib.hid (fun w => answers_any s hs w)
  have he : right6 s = (((s.minor == 0) || (s.minor == 1)) && (asks6 s || answers6 s)) := by
    unfold right6
    have q1 : decide (s.minor = 0) = (s.minor == 0) := by rw [Bool.eq_iff_iff]; simp
    have q2 : decide (s.minor = 1) = (s.minor == 1) := by rw [Bool.eq_iff_iff]; simp
    rw [q1, q2]
  rw [he]
  obtain ⟨b1, hb1⟩ : ∃ b, asks6 s = b := ⟨_, rfl⟩
  obtain ⟨b2, hb2⟩ : ∃ b, answers6 s = b := ⟨_, rfl⟩
  rw [hb1] at AS ⊢
  rw [hb2] at AN ⊢
  unfold staC at AS AN ⊢
  obtain ⟨M, hM⟩ : ∃ M : ByteArray, (⟨s.method.toArray⟩ : ByteArray) = M := ⟨_, rfl⟩
  obtain ⟨T, hT⟩ : ∃ M : ByteArray, (⟨s.target.toArray⟩ : ByteArray) = M := ⟨_, rfl⟩
  obtain ⟨R, hR⟩ : ∃ M : ByteArray, (⟨s.reason.toArray⟩ : ByteArray) = M := ⟨_, rfl⟩
  obtain ⟨S, hS⟩ : ∃ S, s.status = S := ⟨_, rfl⟩
  obtain ⟨mi, hmi⟩ : ∃ S, s.minor = S := ⟨_, rfl⟩
  rw [hM, hT, hR, hS, hmi] at AS AN ⊢
  clear hb1 hb2 he hM hT hR hS hmi hs
  have key : ∀ w2, Below (w.heap.size + 1) (w.alloc (.cells #[.string M, .string T, .int .i64 S, .string R, .int .i64 mi] 23)) w2 → RowAt w2 w.heap.size 23 [.string M, .string T, .int .i64 S, .string R, .int .i64 mi] := fun w2 hb => (RowAt.new w 23 [.string M, .string T, .int .i64 S, .string R, .int .i64 mi]).below hb (Nat.lt_succ_self _)
  have q0 : (mi == 0) = true ∨ ((mi == 0) = false ∧ (mi == 1) = true) ∨ ((mi == 0) = false ∧ (mi == 1) = false) := by
    cases (mi == 0) <;> cases (mi == 1) <;> simp
  rcases q0 with q0 | ⟨q0, q1⟩ | ⟨q0, q1⟩
  all_goals
    cases b1
    all_goals
      go_enter Tryz.func105, Tryz.ntmps105
      go_wp2_with (first
        | (go_at_call 124; (with_reducible refine (AS.out _).mono ?_); rintro e w2 ⟨rfl, hb2⟩; have K := key w2 (by simpa using hb2); have d0 := K.cell (j := 0) rfl; have d1 := K.cell (j := 1) rfl; have d2 := K.cell (j := 2) rfl; have d3 := K.cell (j := 3) rfl; have d4 := K.cell (j := 4) rfl; have B2 := Lib.hid (below_al_step hb2); clear hb2 K)
        | (go_at_call 125; (with_reducible refine (AN.out _).mono ?_); rintro e w3 ⟨rfl, hb3⟩; have B3 := Lib.hid (below_step B2.out hb3); clear hb3))
      all_goals (go_ret; exact ⟨ret_bool (by first | (simp [*]; done) | (simp [*]; omega)), by first | exact B3.out | exact B2.out | exact below_al w _⟩)
end Go.Proofs.YtniiadhhefgmcaaGreatDoor

