/- Walks of layer 6: which first lines may stand, by the code and by the document. Condition: texts within 10^9 octets. -/
import Derived.Test.YtkodeeneljkgeaaDoorFie1
import Derived.Test.YtkodeeneljkgeaaDoorBig1
import Derived.Test.YtkodeeneljkgeaaDoorSta1
import Derived.Test.YtkodeeneljkgeaaDoorOct4
import Derived.Test.YtkodeeneljkgeaaDoorOct12
namespace Go.Proofs.YtkodeeneljkgeaaDoor
open Go.RowKit IH
set_option maxRecDepth 100000
/-- A first line's cells. -/
def staC (s : Sta) : List Value := [.string ⟨s.method.toArray⟩, .string ⟨s.target.toArray⟩, .int .i64 s.status, .string ⟨s.reason.toArray⟩, .int .i64 s.minor]
structure StaS (s : Sta) : Prop where
  m : s.method.length ≤ 9223372036854775807
  t : s.target.length ≤ 9223372036854775807
  r : s.reason.length ≤ 1000000000
theorem emp_isEmpty (l : List UInt8) : ((⟨l.toArray⟩ : ByteArray).toList == []) = l.isEmpty := by
  rw [ByteArray.toList_eq]
  cases l with
  | nil => rfl
  | cons a r => simp
set_option maxHeartbeats 8000000 in
theorem asks_any (s : Sta) (hs : StaS s) (w : World) :
    Calls Tryd.prog 51 #[.agg (staC s).toArray] w fun e w' => e = .returned (.bool (asks6 s)) ∧ Below w.heap.size w w' := by
  have TK := fun w => Token_big ⟨s.method.toArray⟩ (by rw [size_mk]; exact hs.m) w
  have VI := fun w => visible_big ⟨s.target.toArray⟩ (by rw [size_mk]; exact hs.t) w
  obtain ⟨b1, hb1⟩ : ∃ b, token s.method = b := ⟨_, rfl⟩
  obtain ⟨b2, hb2⟩ : ∃ b, vis6 s.target = b := ⟨_, rfl⟩
  have hz1 : (⟨s.method.toArray⟩ : ByteArray).size = s.method.length := size_mk _
  have hz2 : (⟨s.target.toArray⟩ : ByteArray).size = s.target.length := size_mk _
  have he : asks6 s = (b1 && decide ((s.method.length : Int) ≤ 32) && b2 && decide ((s.target.length : Int) ≤ 8000) && (s.status == 0) && s.reason.isEmpty) := by
    unfold asks6
    have q1 : decide (s.method.length ≤ 32) = decide ((s.method.length : Int) ≤ 32) := by rw [decide_eq_decide]; omega
    have q2 : decide (s.target.length ≤ 8000) = decide ((s.target.length : Int) ≤ 8000) := by rw [decide_eq_decide]; omega
    have q3 : decide (s.status = 0) = (s.status == 0) := by rw [Bool.eq_iff_iff]; simp
    rw [hb1, hb2, q1, q2, q3]
  rw [he]
  unfold staC
  rw [hb1] at TK
  rw [hb2] at VI
  have hee := emp_isEmpty s.reason
  rw [← hee]
  obtain ⟨M, hM⟩ : ∃ M : ByteArray, (⟨s.method.toArray⟩ : ByteArray) = M := ⟨_, rfl⟩
  obtain ⟨T, hT⟩ : ∃ M : ByteArray, (⟨s.target.toArray⟩ : ByteArray) = M := ⟨_, rfl⟩
  obtain ⟨R, hR⟩ : ∃ M : ByteArray, (⟨s.reason.toArray⟩ : ByteArray) = M := ⟨_, rfl⟩
  rw [hM] at TK hz1
  rw [hT] at VI hz2
  rw [hM, hT, hR, ← hz1, ← hz2]
  obtain ⟨S, hS⟩ : ∃ S, s.status = S := ⟨_, rfl⟩
  obtain ⟨mi, hmi⟩ : ∃ S, s.minor = S := ⟨_, rfl⟩
  rw [hS, hmi]
  replace TK := Lib.hid TK
  replace VI := Lib.hid VI
  have B0 := Lib.hid (below_al w (.cells #[.string M, .string T, .int .i64 S, .string R, .int .i64 mi] 26))
  clear hb1 hb2 he hee hM hT hR hz1 hz2 hS hmi hs
  cases b1
  all_goals
    go_enter Tryd.func51, Tryd.ntmps51
    go_wp2_with (first
      | (go_at_call 54; (with_reducible refine (TK.out _).mono ?_); rintro e w2 ⟨rfl, rfl⟩)
      | (go_at_call 60; (with_reducible refine (VI.out _).mono ?_); rintro e w3 ⟨rfl, rfl⟩))
    all_goals (go_ret; exact ⟨ret_bool (by first | (simp [*]; done) | (simp [*]; omega)), below_al w _⟩)
set_option maxHeartbeats 8000000 in
theorem answers_any (s : Sta) (hs : StaS s) (w : World) :
    Calls Tryd.prog 52 #[.agg (staC s).toArray] w fun e w' => e = .returned (.bool (answers6 s)) ∧ Below w.heap.size w w' := by
  have VA := fun w => Value_any ⟨s.reason.toArray⟩ (by rw [size_mk]; exact hs.r) w
  obtain ⟨b1, hb1⟩ : ∃ b, value s.reason = b := ⟨_, rfl⟩
  have hz1 : (⟨s.reason.toArray⟩ : ByteArray).size = s.reason.length := size_mk _
  have he : answers6 s = (s.method.isEmpty && s.target.isEmpty && decide (100 ≤ s.status) && decide (s.status ≤ 999) && b1 && decide ((s.reason.length : Int) ≤ 200)) := by
    unfold answers6
    have q1 : decide (s.reason.length ≤ 200) = decide ((s.reason.length : Int) ≤ 200) := by rw [decide_eq_decide]; omega
    rw [hb1, q1]
  rw [he]
  unfold staC
  rw [hb1] at VA
  rw [← emp_isEmpty s.method, ← emp_isEmpty s.target]
  obtain ⟨M, hM⟩ : ∃ M : ByteArray, (⟨s.method.toArray⟩ : ByteArray) = M := ⟨_, rfl⟩
  obtain ⟨T, hT⟩ : ∃ M : ByteArray, (⟨s.target.toArray⟩ : ByteArray) = M := ⟨_, rfl⟩
  obtain ⟨R, hR⟩ : ∃ M : ByteArray, (⟨s.reason.toArray⟩ : ByteArray) = M := ⟨_, rfl⟩
  rw [hR] at VA hz1
  rw [hM, hT, hR, ← hz1]
  obtain ⟨S, hS⟩ : ∃ S, s.status = S := ⟨_, rfl⟩
  obtain ⟨mi, hmi⟩ : ∃ S, s.minor = S := ⟨_, rfl⟩
  rw [hS, hmi]
  replace VA := Lib.hid VA
  have c3 : ∀ w2, Below (w.heap.size + 1) (w.alloc (.cells #[.string M, .string T, .int .i64 S, .string R, .int .i64 mi] 26)) w2 → w2.cell? ⟨w.heap.size, 3, none⟩ = some (.string R) := fun w2 hb => ((RowAt.new w 26 [.string M, .string T, .int .i64 S, .string R, .int .i64 mi]).below hb (Nat.lt_succ_self _)).cell (j := 3) rfl
  clear hb1 he hM hT hR hz1 hS hmi hs
  cases b1
  all_goals
    go_enter Tryd.func52, Tryd.ntmps52
    go_wp2_with (go_at_call 61; (with_reducible refine (VA.out _).mono ?_); rintro e w2 ⟨rfl, hb2⟩; have d3 := c3 w2 (by simpa using hb2); have B2 := Lib.hid (below_al_step hb2); clear hb2)
    all_goals (go_ret; exact ⟨ret_bool (by first | (simp [*]; done) | (simp [*]; omega)), by first | exact B2.out | exact below_al w _⟩)
set_option maxHeartbeats 8000000 in
theorem right6_any (s : Sta) (hs : StaS s) (w : World) :
    Calls Tryd.prog 37 #[.agg (staC s).toArray] w fun e w' => e = .returned (.bool (right6 s)) ∧ Below w.heap.size w w' := by
  have AS := Lib.hid (fun w => asks_any s hs w)
  have AN := Lib.hid (fun w => answers_any s hs w)
  have he : right6 s = (((s.minor == 0) || (s.minor == 1)) && (asks6 s || answers6 s)) := by
    unfold right6
    have q1 : decide (s.minor = 0) = (s.minor == 0) := by rw [Bool.eq_iff_iff]; simp
    have q2 : decide (s.minor = 1) = (s.minor == 1) := by rw [Bool.eq_iff_iff]; simp
    rw [q1, q2]
  rw [he]
  obtain ⟨b1, hb1⟩ : ∃ b, asks6 s = b := ⟨_, rfl⟩
  obtain ⟨b2, hb2⟩ : ∃ b, answers6 s = b := ⟨_, rfl⟩
  rw [hb1] at AS ⊢
  rw [hb2] at AN ⊢
  unfold staC at AS AN ⊢
  obtain ⟨M, hM⟩ : ∃ M : ByteArray, (⟨s.method.toArray⟩ : ByteArray) = M := ⟨_, rfl⟩
  obtain ⟨T, hT⟩ : ∃ M : ByteArray, (⟨s.target.toArray⟩ : ByteArray) = M := ⟨_, rfl⟩
  obtain ⟨R, hR⟩ : ∃ M : ByteArray, (⟨s.reason.toArray⟩ : ByteArray) = M := ⟨_, rfl⟩
  obtain ⟨S, hS⟩ : ∃ S, s.status = S := ⟨_, rfl⟩
  obtain ⟨mi, hmi⟩ : ∃ S, s.minor = S := ⟨_, rfl⟩
  rw [hM, hT, hR, hS, hmi] at AS AN ⊢
  clear hb1 hb2 he hM hT hR hS hmi hs
  have key : ∀ w2, Below (w.heap.size + 1) (w.alloc (.cells #[.string M, .string T, .int .i64 S, .string R, .int .i64 mi] 26)) w2 → RowAt w2 w.heap.size 26 [.string M, .string T, .int .i64 S, .string R, .int .i64 mi] := fun w2 hb => (RowAt.new w 26 [.string M, .string T, .int .i64 S, .string R, .int .i64 mi]).below hb (Nat.lt_succ_self _)
  have q0 : (mi == 0) = true ∨ ((mi == 0) = false ∧ (mi == 1) = true) ∨ ((mi == 0) = false ∧ (mi == 1) = false) := by
    cases (mi == 0) <;> cases (mi == 1) <;> simp
  rcases q0 with q0 | ⟨q0, q1⟩ | ⟨q0, q1⟩
  all_goals
    cases b1
    all_goals
      go_enter Tryd.func37, Tryd.ntmps37
      go_wp2_with (first
        | (go_at_call 51; (with_reducible refine (AS.out _).mono ?_); rintro e w2 ⟨rfl, hb2⟩; have K := key w2 (by simpa using hb2); have d0 := K.cell (j := 0) rfl; have d1 := K.cell (j := 1) rfl; have d2 := K.cell (j := 2) rfl; have d3 := K.cell (j := 3) rfl; have d4 := K.cell (j := 4) rfl; have B2 := Lib.hid (below_al_step hb2); clear hb2 K)
        | (go_at_call 52; (with_reducible refine (AN.out _).mono ?_); rintro e w3 ⟨rfl, hb3⟩; have B3 := Lib.hid (below_step B2.out hb3); clear hb3))
      all_goals (go_ret; exact ⟨ret_bool (by first | (simp [*]; done) | (simp [*]; omega)), by first | exact B3.out | exact B2.out | exact below_al w _⟩)
set_option maxHeartbeats 8000000 in
theorem rRight6_any (s : Sta) (hs : StaS s) (w : World) :
    Calls Tryd.prog 31 #[.agg (staC s).toArray] w fun e w' => e = .returned (.bool (right6 s)) ∧ Below w.heap.size w w' := by
  have TK := fun w => refToken_big ⟨s.method.toArray⟩ (by rw [size_mk]; exact hs.m) w
  have VI := fun w => rVisible_big ⟨s.target.toArray⟩ (by rw [size_mk]; exact hs.t) w
  have VA := fun w => refValue_any ⟨s.reason.toArray⟩ (by rw [size_mk]; exact hs.r) w
  obtain ⟨b1, hb1⟩ : ∃ b, token s.method = b := ⟨_, rfl⟩
  obtain ⟨b2, hb2⟩ : ∃ b, vis6 s.target = b := ⟨_, rfl⟩
  obtain ⟨b3, hb3⟩ : ∃ b, value s.reason = b := ⟨_, rfl⟩
  have hz1 : (⟨s.method.toArray⟩ : ByteArray).size = s.method.length := size_mk _
  have hz2 : (⟨s.target.toArray⟩ : ByteArray).size = s.target.length := size_mk _
  have hz3 : (⟨s.reason.toArray⟩ : ByteArray).size = s.reason.length := size_mk _
  have he : right6 s = (decide (¬ s.minor < 0 ∧ ¬ 1 < s.minor) && (if s.status = 0 then (b1 && decide ((s.method.length : Int) ≤ 32) && b2 && decide ((s.target.length : Int) ≤ 8000) && s.reason.isEmpty) else (s.method.isEmpty && s.target.isEmpty && decide (100 ≤ s.status) && decide (s.status ≤ 999) && b3 && decide ((s.reason.length : Int) ≤ 200)))) := by
    unfold right6 asks6 answers6
    have q1 : decide (s.method.length ≤ 32) = decide ((s.method.length : Int) ≤ 32) := by rw [decide_eq_decide]; omega
    have q2 : decide (s.target.length ≤ 8000) = decide ((s.target.length : Int) ≤ 8000) := by rw [decide_eq_decide]; omega
    have q3 : decide (s.reason.length ≤ 200) = decide ((s.reason.length : Int) ≤ 200) := by rw [decide_eq_decide]; omega
    have q4 : (decide (s.minor = 0) || decide (s.minor = 1)) = decide (¬ s.minor < 0 ∧ ¬ 1 < s.minor) := by rw [Bool.eq_iff_iff]; simp; omega
    rw [hb1, hb2, hb3, q1, q2, q3, q4]
    by_cases h0 : s.status = 0
    · rw [if_pos h0, h0]; simp
    · rw [if_neg h0]; simp [h0]
  rw [he]
  unfold staC
  rw [hb1] at TK
  rw [hb2] at VI
  rw [hb3] at VA
  rw [← emp_isEmpty s.reason, ← emp_isEmpty s.method, ← emp_isEmpty s.target]
  obtain ⟨M, hM⟩ : ∃ M : ByteArray, (⟨s.method.toArray⟩ : ByteArray) = M := ⟨_, rfl⟩
  obtain ⟨T, hT⟩ : ∃ M : ByteArray, (⟨s.target.toArray⟩ : ByteArray) = M := ⟨_, rfl⟩
  obtain ⟨R, hR⟩ : ∃ M : ByteArray, (⟨s.reason.toArray⟩ : ByteArray) = M := ⟨_, rfl⟩
  rw [hM] at TK hz1
  rw [hT] at VI hz2
  rw [hR] at VA hz3
  rw [hM, hT, hR, ← hz1, ← hz2, ← hz3]
  obtain ⟨S, hS⟩ : ∃ S, s.status = S := ⟨_, rfl⟩
  obtain ⟨mi, hmi⟩ : ∃ S, s.minor = S := ⟨_, rfl⟩
  rw [hS, hmi]
  replace TK := Lib.hid TK
  replace VI := Lib.hid VI
  replace VA := Lib.hid VA
  have key : ∀ w2, Below (w.heap.size + 1) (w.alloc (.cells #[.string M, .string T, .int .i64 S, .string R, .int .i64 mi] 26)) w2 → RowAt w2 w.heap.size 26 [.string M, .string T, .int .i64 S, .string R, .int .i64 mi] := fun w2 hb => (RowAt.new w 26 [.string M, .string T, .int .i64 S, .string R, .int .i64 mi]).below hb (Nat.lt_succ_self _)
  clear hb1 hb2 hb3 he hM hT hR hz1 hz2 hz3 hS hmi hs
  by_cases hmm : ¬ mi < 0 ∧ ¬ 1 < mi
  · rw [show decide (¬ mi < 0 ∧ ¬ 1 < mi) = true from decide_eq_true hmm, Bool.true_and]
    obtain ⟨hm1, hm2⟩ := hmm
    by_cases h0 : S = 0
    · subst h0
      rw [if_pos rfl]
      cases b1
      all_goals
        go_enter Tryd.func31, Tryd.ntmps31
        go_wp2_with (first
          | (go_at_call 28; (with_reducible refine (TK.out _).mono ?_); rintro e w2 ⟨rfl, hb2⟩; have K := key w2 (by simpa using hb2); have d0 := K.cell (j := 0) rfl; have d1 := K.cell (j := 1) rfl; have d2 := K.cell (j := 2) rfl; have d3 := K.cell (j := 3) rfl; have d4 := K.cell (j := 4) rfl; have B2 := Lib.hid (below_al_step hb2); clear hb2 K)
          | (go_at_call 47; (with_reducible refine (VI.out _).mono ?_); rintro e w3 ⟨rfl, rfl⟩))
        all_goals (go_ret; exact ⟨ret_bool (by first | (simp [*]; done) | (simp [*]; omega)), by first | exact B2.out | exact below_al w _⟩)
    · rw [if_neg h0]
      have h0b : (S == 0) = false := by rw [beq_eq_false_iff_ne]; exact h0
      cases b3
      all_goals
        go_enter Tryd.func31, Tryd.ntmps31
        go_wp2_with (go_at_call 48; (with_reducible refine (VA.out _).mono ?_); rintro e w3 ⟨rfl, rfl⟩)
        all_goals (go_ret; exact ⟨ret_bool (by first | (simp [*]; done) | (simp [*]; omega)), below_al w _⟩)
  · rw [show decide (¬ mi < 0 ∧ ¬ 1 < mi) = false from decide_eq_false hmm, Bool.false_and]
    have hw : mi < 0 ∨ (¬ mi < 0 ∧ 1 < mi) := by omega
    clear hmm
    rcases hw with hw | ⟨hw1, hw2⟩
    all_goals
      go_enter Tryd.func31, Tryd.ntmps31
      go_wp2
      go_ret
      exact ⟨rfl, below_al w _⟩
end Go.Proofs.YtkodeeneljkgeaaDoor
