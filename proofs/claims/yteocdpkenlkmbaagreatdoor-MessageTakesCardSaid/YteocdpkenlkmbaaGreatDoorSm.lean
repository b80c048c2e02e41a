/- Sm: several texts, one behind the other. -/
import Derived.Test.YteocdpkenlkmbaaGreatDoorTe
import Derived.Test.YteocdpkenlkmbaaGreatDoorKt
import Derived.Test.YteocdpkenlkmbaaGreatDoorPr
import Derived.Test.YteocdpkenlkmbaaGreatDoorOm
/- Layer 8's laws: is a message not too great (icehouselaw08.small). Condition: the message's own. -/
namespace Go.Proofs.YteocdpkenlkmbaaGreatDoor
open Go.RowKit IH
set_option maxRecDepth 100000
def smallM (s : Sta) (L : List Fld) (X : List UInt8) (m : Nat) : Bool :=
  !(decide (100 < s.method.length) || (decide (2000 < s.target.length) || (decide (500 < s.reason.length) || (decide (140 < L.length) || (decide (3000 < X.length) || decide (100 < m))))))
  && L.all (fun f => decide (f.1.length ≤ 200) && decide (f.2.length ≤ 500))
structure SmallM (s : Sta) (L : List Fld) (X : List UInt8) (m : Nat) : Prop where
  me : s.method.length ≤ 100
  ta : s.target.length ≤ 2000
  re : s.reason.length ≤ 500
  fn : L.length ≤ 140
  bo : X.length ≤ 3000
  mm : m ≤ 100
  fs : ∀ f ∈ L, f.1.length ≤ 200 ∧ f.2.length ≤ 500
theorem smallM_is {s : Sta} {L : List Fld} {X : List UInt8} {m : Nat} (h : smallM s L X m = true) : SmallM s L X m := by
  simp only [smallM, Bool.and_eq_true, Bool.not_eq_true', Bool.or_eq_false_iff, decide_eq_false_iff_not, List.all_eq_true, decide_eq_true_eq] at h
  obtain ⟨⟨h1, h2, h3, h4, h5, h6⟩, h7⟩ := h
  exact ⟨by omega, by omega, by omega, by omega, by omega, by omega, fun f hf => h7 f hf⟩
theorem ret_bool9 {a b : Bool} (h : a = b) : Ending.returned (.bool a) = Ending.returned (.bool b) := by rw [h]
set_option maxHeartbeats 16000000 in
theorem small_any (s : Sta) (L : List Fld) (X : List UInt8) (A2 A3 : Option Addr) (n2 n3 c2 c3 : Nat) (M : ByteArray) (w : World) (hf : SliceIn w w.heap.size 2 A2 n2 c2 (fldsV L)) (hx : SliceIn w w.heap.size 1 A3 n3 c3 (bytesV X)) :
    Calls Tryz.prog 28 #[.agg (msgC s (.slice A2 n2 c2) (.slice A3 n3 c3)).toArray, .string M] w fun x w' => x = .returned (.bool (smallM s L X M.size)) ∧ Below w.heap.size w w' := by
  have hn2 := fld_count hf
  have hn3 : X.length = n3 := by have := hx.1; rw [bytesV_length] at this; omega
  have hm2 : n2 ≤ 9223372036854775807 := by have := hf.2.1; have := hf.2.2.1; simp only [maxLen] at this; omega
  obtain ⟨w1, hw1⟩ : ∃ W, w.alloc (.cells (msgC s (.slice A2 n2 c2) (.slice A3 n3 c3)).toArray 49) = W := ⟨_, rfl⟩
  have BW := below_al w (.cells (msgC s (.slice A2 n2 c2) (.slice A3 n3 c3)).toArray 49)
  have RW := RowAt.new w 49 (msgC s (.slice A2 n2 c2) (.slice A3 n3 c3))
  rw [hw1] at BW RW
  have H2 := Lib.hid (hf.below BW)
  have HB := Lib.hid BW
  have d0 := RW.cell (j := 0) rfl
  have d1 := RW.cell (j := 1) rfl
  have d3 := RW.cell (j := 3) rfl
  have d5 := RW.cell (j := 5) rfl
  have d6 := RW.cell (j := 6) rfl
  obtain ⟨T, hT⟩ : ∃ T, smallM s L X M.size = T := ⟨_, rfl⟩
  have HT := Lib.hid hT
  rw [hT]
  have hsU : (⟨s.method.toArray⟩ : ByteArray).size = s.method.length := size_mk _
  have hsV : (⟨s.target.toArray⟩ : ByteArray).size = s.target.length := size_mk _
  have hsR : (⟨s.reason.toArray⟩ : ByteArray).size = s.reason.length := size_mk _
  unfold msgC staC at hw1 ⊢
  simp only [List.cons_append, List.nil_append] at hw1 ⊢
  obtain ⟨t1, h1⟩ : ∃ t, decide (100 < s.method.length) = t := ⟨_, rfl⟩
  obtain ⟨t2, h2⟩ : ∃ t, decide (2000 < s.target.length) = t := ⟨_, rfl⟩
  obtain ⟨t3, h3⟩ : ∃ t, decide (500 < s.reason.length) = t := ⟨_, rfl⟩
  obtain ⟨t4, h4⟩ : ∃ t, decide (140 < n2) = t := ⟨_, rfl⟩
  obtain ⟨t5, h5⟩ : ∃ t, decide (3000 < n3) = t := ⟨_, rfl⟩
  obtain ⟨t6, h6⟩ : ∃ t, decide (100 < M.size) = t := ⟨_, rfl⟩
  obtain ⟨b, hb⟩ : ∃ b, (t1 || (t2 || (t3 || (t4 || (t5 || t6))))) = b := ⟨_, rfl⟩
  have HB1 := Lib.hid hb
  have HF : Hid (T = (!b && L.all (fun f => decide (f.1.length ≤ 200) && decide (f.2.length ≤ 500)))) := Lib.hid (by
    rw [← HT.out, ← hb, ← h1, ← h2, ← h3, ← h4, ← h5, ← h6]; unfold smallM; rw [hn2, hn3])
  have HL2 := Lib.hid hn2
  generalize (⟨s.method.toArray⟩ : ByteArray) = U at *
  generalize (⟨s.target.toArray⟩ : ByteArray) = V at *
  generalize (⟨s.reason.toArray⟩ : ByteArray) = R at *
  have q1 : decide ((100 : Int) < (U.size : Int)) = t1 := by rw [← h1, decide_eq_decide]; omega
  have q2 : decide ((2000 : Int) < (V.size : Int)) = t2 := by rw [← h2, decide_eq_decide]; omega
  have q3 : decide ((500 : Int) < (R.size : Int)) = t3 := by rw [← h3, decide_eq_decide]; omega
  have q4 : decide ((140 : Int) < (n2 : Int)) = t4 := by rw [← h4, decide_eq_decide]; omega
  have q5 : decide ((3000 : Int) < (n3 : Int)) = t5 := by rw [← h5, decide_eq_decide]; omega
  have q6 : decide ((100 : Int) < (M.size : Int)) = t6 := by rw [← h6, decide_eq_decide]; omega
  clear h1 h2 h3 h4 h5 h6 hsU hsV hsR hT hb hn2 hn3 hf hx BW RW HT
  go_enter Tryz.func28, Tryz.ntmps28
  go_upto_region 1 with fail
  go_cut [41] from 6 to 41 (fun s wx => s = .bool b ∧ wx = w1)
  case first =>
    refine wp_region_seq ?_
    iterate 5
      refine seq_take (v := ?_) (wanted_un rfl) ?_ ?_
      rotate_left
      · go_simp
        try with_reducible rfl
      try simp only [Act.put, List.setIfInBounds_toArray, List.set_cons_zero, List.set_cons_succ]
    cases t1
    rotate_left
    · iterate 1
        refine seq_take (v := ?_) (wanted_un rfl) ?_ ?_
        rotate_left
        · go_simp
          try with_reducible rfl
        try simp only [Act.put, List.setIfInBounds_toArray, List.set_cons_zero, List.set_cons_succ]
      iterate 5
        refine seq_skip (wanted_no rfl rfl rfl rfl) ?_
        try simp only [Act.put, List.setIfInBounds_toArray, List.set_cons_zero, List.set_cons_succ]
      iterate 2
        refine seq_take (v := ?_) (wanted_un rfl) ?_ ?_
        rotate_left
        · go_simp
          try with_reducible rfl
        try simp only [Act.put, List.setIfInBounds_toArray, List.set_cons_zero, List.set_cons_succ]
      iterate 5
        refine seq_skip (wanted_no rfl rfl rfl rfl) ?_
        try simp only [Act.put, List.setIfInBounds_toArray, List.set_cons_zero, List.set_cons_succ]
      iterate 2
        refine seq_take (v := ?_) (wanted_un rfl) ?_ ?_
        rotate_left
        · go_simp
          try with_reducible rfl
        try simp only [Act.put, List.setIfInBounds_toArray, List.set_cons_zero, List.set_cons_succ]
      iterate 4
        refine seq_skip (wanted_no rfl rfl rfl rfl) ?_
        try simp only [Act.put, List.setIfInBounds_toArray, List.set_cons_zero, List.set_cons_succ]
      iterate 2
        refine seq_take (v := ?_) (wanted_un rfl) ?_ ?_
        rotate_left
        · go_simp
          try with_reducible rfl
        try simp only [Act.put, List.setIfInBounds_toArray, List.set_cons_zero, List.set_cons_succ]
      iterate 4
        refine seq_skip (wanted_no rfl rfl rfl rfl) ?_
        try simp only [Act.put, List.setIfInBounds_toArray, List.set_cons_zero, List.set_cons_succ]
      iterate 2
        refine seq_take (v := ?_) (wanted_un rfl) ?_ ?_
        rotate_left
        · go_simp
          try with_reducible rfl
        try simp only [Act.put, List.setIfInBounds_toArray, List.set_cons_zero, List.set_cons_succ]
      iterate 3
        refine seq_skip (wanted_no rfl rfl rfl rfl) ?_
        try simp only [Act.put, List.setIfInBounds_toArray, List.set_cons_zero, List.set_cons_succ]
      iterate 1
        refine seq_take (v := ?_) (wanted_un rfl) ?_ ?_
        rotate_left
        · go_simp
          try with_reducible rfl
        try simp only [Act.put, List.setIfInBounds_toArray, List.set_cons_zero, List.set_cons_succ]
      refine seq_done ?_
      go_wp2_with fail
      go_meet
      exact ⟨by rw [← HB1.out]; first | rfl | (simp; done), rfl⟩
    iterate 1
      refine seq_take (v := ?_) (wanted_un rfl) ?_ ?_
      rotate_left
      · go_simp
        try with_reducible rfl
      try simp only [Act.put, List.setIfInBounds_toArray, List.set_cons_zero, List.set_cons_succ]
    iterate 5
      refine seq_take (v := ?_) (wanted_yes rfl rfl rfl rfl) ?_ ?_
      rotate_left
      · go_simp
        try with_reducible rfl
      try simp only [Act.put, List.setIfInBounds_toArray, List.set_cons_zero, List.set_cons_succ]
    cases t2
    rotate_left
    · iterate 2
        refine seq_take (v := ?_) (wanted_un rfl) ?_ ?_
        rotate_left
        · go_simp
          try with_reducible rfl
        try simp only [Act.put, List.setIfInBounds_toArray, List.set_cons_zero, List.set_cons_succ]
      iterate 5
        refine seq_skip (wanted_no rfl rfl rfl rfl) ?_
        try simp only [Act.put, List.setIfInBounds_toArray, List.set_cons_zero, List.set_cons_succ]
      iterate 2
        refine seq_take (v := ?_) (wanted_un rfl) ?_ ?_
        rotate_left
        · go_simp
          try with_reducible rfl
        try simp only [Act.put, List.setIfInBounds_toArray, List.set_cons_zero, List.set_cons_succ]
      iterate 4
        refine seq_skip (wanted_no rfl rfl rfl rfl) ?_
        try simp only [Act.put, List.setIfInBounds_toArray, List.set_cons_zero, List.set_cons_succ]
      iterate 2
        refine seq_take (v := ?_) (wanted_un rfl) ?_ ?_
        rotate_left
        · go_simp
          try with_reducible rfl
        try simp only [Act.put, List.setIfInBounds_toArray, List.set_cons_zero, List.set_cons_succ]
      iterate 4
        refine seq_skip (wanted_no rfl rfl rfl rfl) ?_
        try simp only [Act.put, List.setIfInBounds_toArray, List.set_cons_zero, List.set_cons_succ]
      iterate 2
        refine seq_take (v := ?_) (wanted_un rfl) ?_ ?_
        rotate_left
        · go_simp
          try with_reducible rfl
        try simp only [Act.put, List.setIfInBounds_toArray, List.set_cons_zero, List.set_cons_succ]
      iterate 3
        refine seq_skip (wanted_no rfl rfl rfl rfl) ?_
        try simp only [Act.put, List.setIfInBounds_toArray, List.set_cons_zero, List.set_cons_succ]
      iterate 1
        refine seq_take (v := ?_) (wanted_un rfl) ?_ ?_
        rotate_left
        · go_simp
          try with_reducible rfl
        try simp only [Act.put, List.setIfInBounds_toArray, List.set_cons_zero, List.set_cons_succ]
      refine seq_done ?_
      go_wp2_with fail
      go_meet
      exact ⟨by rw [← HB1.out]; first | rfl | (simp; done), rfl⟩
    iterate 2
      refine seq_take (v := ?_) (wanted_un rfl) ?_ ?_
      rotate_left
      · go_simp
        try with_reducible rfl
      try simp only [Act.put, List.setIfInBounds_toArray, List.set_cons_zero, List.set_cons_succ]
    iterate 5
      refine seq_take (v := ?_) (wanted_yes rfl rfl rfl rfl) ?_ ?_
      rotate_left
      · go_simp
        try with_reducible rfl
      try simp only [Act.put, List.setIfInBounds_toArray, List.set_cons_zero, List.set_cons_succ]
    cases t3
    rotate_left
    · iterate 2
        refine seq_take (v := ?_) (wanted_un rfl) ?_ ?_
        rotate_left
        · go_simp
          try with_reducible rfl
        try simp only [Act.put, List.setIfInBounds_toArray, List.set_cons_zero, List.set_cons_succ]
      iterate 4
        refine seq_skip (wanted_no rfl rfl rfl rfl) ?_
        try simp only [Act.put, List.setIfInBounds_toArray, List.set_cons_zero, List.set_cons_succ]
      iterate 2
        refine seq_take (v := ?_) (wanted_un rfl) ?_ ?_
        rotate_left
        · go_simp
          try with_reducible rfl
        try simp only [Act.put, List.setIfInBounds_toArray, List.set_cons_zero, List.set_cons_succ]
      iterate 4
        refine seq_skip (wanted_no rfl rfl rfl rfl) ?_
        try simp only [Act.put, List.setIfInBounds_toArray, List.set_cons_zero, List.set_cons_succ]
      iterate 2
        refine seq_take (v := ?_) (wanted_un rfl) ?_ ?_
        rotate_left
        · go_simp
          try with_reducible rfl
        try simp only [Act.put, List.setIfInBounds_toArray, List.set_cons_zero, List.set_cons_succ]
      iterate 3
        refine seq_skip (wanted_no rfl rfl rfl rfl) ?_
        try simp only [Act.put, List.setIfInBounds_toArray, List.set_cons_zero, List.set_cons_succ]
      iterate 1
        refine seq_take (v := ?_) (wanted_un rfl) ?_ ?_
        rotate_left
        · go_simp
          try with_reducible rfl
        try simp only [Act.put, List.setIfInBounds_toArray, List.set_cons_zero, List.set_cons_succ]
      refine seq_done ?_
      go_wp2_with fail
      go_meet
      exact ⟨by rw [← HB1.out]; first | rfl | (simp; done), rfl⟩
    iterate 2
      refine seq_take (v := ?_) (wanted_un rfl) ?_ ?_
      rotate_left
      · go_simp
        try with_reducible rfl
      try simp only [Act.put, List.setIfInBounds_toArray, List.set_cons_zero, List.set_cons_succ]
    iterate 4
      refine seq_take (v := ?_) (wanted_yes rfl rfl rfl rfl) ?_ ?_
      rotate_left
      · go_simp
        try with_reducible rfl
      try simp only [Act.put, List.setIfInBounds_toArray, List.set_cons_zero, List.set_cons_succ]
    cases t4
    rotate_left
    · iterate 2
        refine seq_take (v := ?_) (wanted_un rfl) ?_ ?_
        rotate_left
        · go_simp
          try with_reducible rfl
        try simp only [Act.put, List.setIfInBounds_toArray, List.set_cons_zero, List.set_cons_succ]
      iterate 4
        refine seq_skip (wanted_no rfl rfl rfl rfl) ?_
        try simp only [Act.put, List.setIfInBounds_toArray, List.set_cons_zero, List.set_cons_succ]
      iterate 2
        refine seq_take (v := ?_) (wanted_un rfl) ?_ ?_
        rotate_left
        · go_simp
          try with_reducible rfl
        try simp only [Act.put, List.setIfInBounds_toArray, List.set_cons_zero, List.set_cons_succ]
      iterate 3
        refine seq_skip (wanted_no rfl rfl rfl rfl) ?_
        try simp only [Act.put, List.setIfInBounds_toArray, List.set_cons_zero, List.set_cons_succ]
      iterate 1
        refine seq_take (v := ?_) (wanted_un rfl) ?_ ?_
        rotate_left
        · go_simp
          try with_reducible rfl
        try simp only [Act.put, List.setIfInBounds_toArray, List.set_cons_zero, List.set_cons_succ]
      refine seq_done ?_
      go_wp2_with fail
      go_meet
      exact ⟨by rw [← HB1.out]; first | rfl | (simp; done), rfl⟩
    iterate 2
      refine seq_take (v := ?_) (wanted_un rfl) ?_ ?_
      rotate_left
      · go_simp
        try with_reducible rfl
      try simp only [Act.put, List.setIfInBounds_toArray, List.set_cons_zero, List.set_cons_succ]
    iterate 4
      refine seq_take (v := ?_) (wanted_yes rfl rfl rfl rfl) ?_ ?_
      rotate_left
      · go_simp
        try with_reducible rfl
      try simp only [Act.put, List.setIfInBounds_toArray, List.set_cons_zero, List.set_cons_succ]
    cases t5
    rotate_left
    · iterate 2
        refine seq_take (v := ?_) (wanted_un rfl) ?_ ?_
        rotate_left
        · go_simp
          try with_reducible rfl
        try simp only [Act.put, List.setIfInBounds_toArray, List.set_cons_zero, List.set_cons_succ]
      iterate 3
        refine seq_skip (wanted_no rfl rfl rfl rfl) ?_
        try simp only [Act.put, List.setIfInBounds_toArray, List.set_cons_zero, List.set_cons_succ]
      iterate 1
        refine seq_take (v := ?_) (wanted_un rfl) ?_ ?_
        rotate_left
        · go_simp
          try with_reducible rfl
        try simp only [Act.put, List.setIfInBounds_toArray, List.set_cons_zero, List.set_cons_succ]
      refine seq_done ?_
      go_wp2_with fail
      go_meet
      exact ⟨by rw [← HB1.out]; first | rfl | (simp; done), rfl⟩
    iterate 2
      refine seq_take (v := ?_) (wanted_un rfl) ?_ ?_
      rotate_left
      · go_simp
        try with_reducible rfl
      try simp only [Act.put, List.setIfInBounds_toArray, List.set_cons_zero, List.set_cons_succ]
    iterate 3
      refine seq_take (v := ?_) (wanted_yes rfl rfl rfl rfl) ?_ ?_
      rotate_left
      · go_simp
        try with_reducible rfl
      try simp only [Act.put, List.setIfInBounds_toArray, List.set_cons_zero, List.set_cons_succ]
    iterate 1
      refine seq_take (v := ?_) (wanted_un rfl) ?_ ?_
      rotate_left
      · go_simp
        try with_reducible rfl
      try simp only [Act.put, List.setIfInBounds_toArray, List.set_cons_zero, List.set_cons_succ]
    refine seq_done ?_
    go_wp2_with fail
    go_meet
    exact ⟨by rw [← HB1.out]; first | rfl | (simp; done), rfl⟩
  case rest =>
    obtain ⟨rfl, hwc⟩ := hcut
    subst wc
    clear q1 q2 q3 q4 q5 q6 d0 d1 d3 d6 HB1
    cases b
    · have HF3 : Hid (T = L.all (fun f => decide (f.1.length ≤ 200) && decide (f.2.length ≤ 500))) := Lib.hid (by rw [HF.out]; simp)
      clear HF
      go_wp2
      go_loopw [5] (fun i wr => ∃ k : Nat, i = .int .i64 k ∧ k ≤ n2 ∧ (∀ j f, j < k → L[j]? = some f → f.1.length ≤ 200 ∧ f.2.length ≤ 500) ∧ wr = w1) (fun i _ => n2 - (intOf i).toNat)
      case atStart => exact ⟨0, rfl, by omega, fun j s h => absurd h (by omega), rfl⟩
      case round =>
        obtain ⟨k, rfl, hk, hg, hwr⟩ := hrel
        subst wr
        replace hg := Lib.hid hg
        by_cases hlt : k < n2
        · obtain ⟨f, hs⟩ : ∃ s, L[k]? = some s := ⟨_, List.getElem?_eq_getElem (by rw [HL2.out]; exact hlt)⟩
          obtain ⟨bb, off, rfl, _, c0, c1⟩ := fld_at H2.out hs
          have hz1 : (⟨f.1.toArray⟩ : ByteArray).size = f.1.length := size_mk _
          have hz2 : (⟨f.2.toArray⟩ : ByteArray).size = f.2.length := size_mk _
          generalize (⟨f.1.toArray⟩ : ByteArray) = S1 at *
          generalize (⟨f.2.toArray⟩ : ByteArray) = S2 at *
          have HS := Lib.hid hs
          have HZ1 := Lib.hid hz1
          have HZ2 := Lib.hid hz2
          clear hs hz1 hz2
          have bad : Hid ((200 < S1.size ∨ 500 < S2.size) → T = false) := Lib.hid (fun h0 => by
            rw [HF3.out, ← Bool.not_eq_true, List.all_eq_true]
            intro h
            have h := h f (List.mem_of_getElem? HS.out)
            simp only [Bool.and_eq_true, decide_eq_true_eq] at h
            have := HZ1.out
            have := HZ2.out
            omega)
          by_cases h2 : (200 : Int) < (S1.size : Int)
          · have HN : Hid (T = false) := Lib.hid (bad.out (by omega))
            go_wp2
            go_ret
            exact ⟨ret_bool9 HN.out.symm, HB.out⟩
          · by_cases h3 : (500 : Int) < (S2.size : Int)
            · have HN : Hid (T = false) := Lib.hid (bad.out (by omega))
              go_wp2
              go_ret
              exact ⟨ret_bool9 HN.out.symm, HB.out⟩
            · go_wp2
              go_roundw
              case rel =>
                refine ⟨k + 1, by go_num, by omega, fun j s' hj hs' => ?_, by first | rfl | trivial⟩
                rcases (show j = k ∨ j < k by omega) with rfl | hj
                · rw [HS.out] at hs'
                  injection hs' with hs'
                  subst hs'
                  have := HZ1.out
                  have := HZ2.out
                  exact ⟨by omega, by omega⟩
                · exact hg.out j s' hj hs'
              case measure => simp [intOf]; omega
        · have HN : Hid (T = true) := Lib.hid (by
            rw [HF3.out, List.all_eq_true]
            intro f hf
            obtain ⟨j, hj⟩ := List.getElem?_of_mem hf
            have hjl := (List.getElem?_eq_some_iff.1 hj).1
            have h := hg.out j f (by have := HL2.out; omega) hj
            simp only [Bool.and_eq_true, decide_eq_true_eq]
            exact h)
          go_wp2
          go_ret
          exact ⟨ret_bool9 HN.out.symm, HB.out⟩
    · have HN : Hid (T = false) := Lib.hid (by rw [HF.out]; rfl)
      go_wp2
      go_ret
      exact ⟨ret_bool9 HN.out.symm, HB.out⟩
end Go.Proofs.YteocdpkenlkmbaaGreatDoor

/- What a message that is not too great is within: its print is short, its lists are few. Condition: the message's own. -/
namespace Go.Proofs.YteocdpkenlkmbaaGreatDoor
open Go.RowKit IH
section
variable {s : Sta} {L : List Fld} {X : List UInt8} {m : Nat}
theorem SmallM.sizeF (h : SmallM s L X m) : sizeL L ≤ 140562 := by
  have h1 := sizeL_bd 500 L (fun f hf => ⟨by have := (h.fs f hf).1; omega, (h.fs f hf).2⟩)
  have h2 : L.length * (2 * 500 + 4) ≤ 140 * 1004 := Nat.mul_le_mul h.fn (Nat.le_refl _)
  omega
theorem SmallM.fldB (h : SmallM s L X m) : FldB L L.length :=
  ⟨by have := h.fn; omega, fun f hf => ⟨by have := (h.fs f hf).1; omega, by have := (h.fs f hf).2; omega⟩, by have := h.sizeF; omega⟩
theorem SmallM.smallF (h : SmallM s L X m) : smallF 1000000000 L := h.fldB.f
theorem SmallM.staB (h : SmallM s L X m) (w : StaW s) : StaB s := ⟨by have := h.me; omega, by have := h.ta; omega, by have := h.re; omega, w.s1, w.i1⟩
theorem SmallM.prS (h : SmallM s L X m) : (printS s).length ≤ 3000 := by
  have h1 := pN_len s.minor
  have h2 := pN_len s.status
  have h3 := h.me
  have h4 := h.ta
  have h5 := h.re
  have h6 : http1.length ≤ 100 := by decide
  unfold printS
  split <;> simp only [List.length_append, List.length_cons, List.length_nil] <;> omega
theorem SmallM.print (h : SmallM s L X m) (M : List UInt8) : (printM ⟨s, L, X⟩ M).length ≤ 200000 := by
  have h1 := h.prS
  have h2 := h.sizeF
  have h3 := printL_size L
  have h4 := h.bo
  have h5 := encL_len8 [X] (fun p hp => by rw [List.mem_singleton.1 hp]; omega)
  have h6 : IH.total [X] = X.length := by simp [IH.total]
  unfold printM
  simp only [List.length_append]
  simp only [List.length_cons, List.length_nil] at h5
  split <;> omega
end
end Go.Proofs.YteocdpkenlkmbaaGreatDoor
