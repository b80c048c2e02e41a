/- MessageTakes in plain Lean: a reader that is fed piece by piece. No condition but lengths. -/
import Derived.Test.YteocdpkenlkmbaaGreatDoorRc
namespace IH
theorem runM_le : ∀ (k : Nat) (r : Rd) (b : List UInt8), b.length ≤ k → (runM r b).2.1 ≤ b.length := by
  intro k
  induction k with
  | zero =>
    intro r b hb
    have hle := stepM_le (r := r) (b := b)
    rw [runM_step]
    split
    · exact Nat.zero_le _
    · rw [if_pos (by omega)]; exact Nat.zero_le _
  | succ k ih =>
    intro r b hb
    have hle := stepM_le (r := r) (b := b)
    rw [runM_step]
    split
    · exact Nat.zero_le _
    · split
      · exact Nat.zero_le _
      · have h1 := ih (stepM r b).2.2.2 (b.drop (stepM r b).2.1) (by rw [List.length_drop]; omega)
        rw [List.length_drop] at h1
        unfold aheadM
        split
        · exact Nat.zero_le _
        · show (stepM r b).2.1 + _ ≤ _
          omega
theorem runM_in : ∀ (k : Nat) (r : Rd) (b : List UInt8), b.length ≤ k → RdIn r → r.fault = 0 → (runM r b).2.2.1 = 0 → RdIn (runM r b).2.2.2 ∧ (runM r b).2.2.2.fault = 0 := by
  intro k
  induction k with
  | zero =>
    intro r b hb hr hf he
    have hle := stepM_le (r := r) (b := b)
    rw [runM_step] at he ⊢
    split at he
    · rename_i h; exact absurd he h
    · rename_i h
      rw [if_neg h]
      rw [if_pos (by omega)]
      exact ⟨stepM_in hr b (by simpa using h), by rw [stepM_fault]; exact hf⟩
  | succ k ih =>
    intro r b hb hr hf he
    have hle := stepM_le (r := r) (b := b)
    rw [runM_step] at he ⊢
    split at he
    · rename_i h; exact absurd he h
    · rename_i h
      have h0 : (stepM r b).2.2.1 = 0 := by simpa using h
      rw [if_neg h]
      split
      · exact ⟨stepM_in hr b h0, by rw [stepM_fault]; exact hf⟩
      · rename_i h2
        rw [if_neg h2] at he
        have he' : (runM (stepM r b).2.2.2 (b.drop (stepM r b).2.1)).2.2.1 = 0 := by
          unfold aheadM at he
          split at he
          · rename_i h3; exact absurd he h3
          · rename_i h3; simpa using h3
        have := ih (stepM r b).2.2.2 (b.drop (stepM r b).2.1) (by rw [List.length_drop]; omega) (stepM_in hr b h0) (by rw [stepM_fault]; exact hf) he'
        unfold aheadM
        rw [if_neg (by simpa using he')]
        exact this
/-- What a reader knows after so many octets: all of them taken, or kept for the next time. -/
structure Fed (asks : Bool) (method l : List UInt8) (out : List UInt8) (took : Nat) (r : Rd) : Prop where
  run : runM (Rd.new asks method) l = (out, took, 0, r)
theorem fed_le {asks : Bool} {method l out : List UInt8} {took : Nat} {r : Rd} (h : Fed asks method l out took r) : took ≤ l.length := by
  have := runM_le l.length (Rd.new asks method) l (Nat.le_refl _)
  rw [h.run] at this
  exact this
theorem fed_zero (asks : Bool) (method : List UInt8) : runM (Rd.new asks method) [] = ([], 0, 0, Rd.new asks method) := by
  cases asks <;> rfl
theorem fed_next {asks : Bool} {method l out : List UInt8} {took : Nat} {r : Rd} (h : Fed asks method l out took r) {b : List UInt8} {k : Nat} (hk : l.length ≤ k) (hl : l = b.take l.length) (hb : b.length ≤ 65535) :
    runM (Rd.new asks method) (b.take k) = aheadM out took (runM r ((b.take k).drop took)) := by
  obtain ⟨c, hc⟩ : ∃ c, b.take k = l ++ c := by
    refine ⟨(b.take k).drop l.length, ?_⟩
    have e : l = (b.take k).take l.length := by rw [List.take_take, Nat.min_eq_left hk]; exact hl
    conv => lhs; rw [← List.take_append_drop l.length (b.take k), ← e]
  rw [hc]
  exact takeM_on h.run (fed_le h) (by rw [← hc, List.length_take]; omega)
theorem stepM_err_w {r : Rd} {b : List UInt8} (h : (stepM r b).2.2.1 ≠ 0) : (stepM r b).2.2.2.w ≠ 3 := by
  unfold stepM at h ⊢
  split at h
  · rename_i hw
    rw [if_pos hw]
    split at h
    · exact absurd rfl h
    · rename_i h1
      rw [if_neg h1]
      split at h
      · rename_i h2
        rw [if_pos h2]
        show r.w ≠ 3
        omega
      · exact absurd rfl h
  · rename_i hw
    rw [if_neg hw]
    split at h
    · rename_i hw1
      rw [if_pos hw1]
      split at h
      · exact absurd rfl h
      · rename_i h1
        rw [if_neg h1]
        split at h
        · rename_i h2
          rw [if_pos h2]
          show r.w ≠ 3
          omega
        · rename_i h2
          rw [if_neg h2]
          dsimp only at h ⊢
          split at h
          · rename_i h3
            rw [if_pos h3]
            show r.w ≠ 3
            omega
          · exact absurd rfl h
    · rename_i hw1
      rw [if_neg hw1]
      split at h
      · rename_i hw2
        rw [if_pos hw2]
        split at h
        · rename_i hk
          rw [if_pos hk]
          dsimp only at h ⊢
          split at h
          · rename_i h3
            rw [if_pos h3]
            show r.w ≠ 3
            omega
          · exact absurd rfl h
        · exact absurd rfl h
      · exact absurd rfl h
theorem runM_err_w : ∀ (k : Nat) (r : Rd) (b : List UInt8), b.length ≤ k → (runM r b).2.2.1 ≠ 0 → (runM r b).2.2.2.w ≠ 3 := by
  intro k
  induction k with
  | zero =>
    intro r b hb he
    have hle := stepM_le (r := r) (b := b)
    rw [runM_step] at he ⊢
    split at he
    · rename_i h
      rw [if_pos h]
      exact stepM_err_w h
    · rename_i h
      rw [if_pos (by omega)] at he
      exact absurd rfl he
  | succ k ih =>
    intro r b hb he
    have hle := stepM_le (r := r) (b := b)
    rw [runM_step] at he ⊢
    split at he
    · rename_i h
      rw [if_pos h]
      exact stepM_err_w h
    · rename_i h
      rw [if_neg h]
      split at he
      · exact absurd rfl he
      · rename_i h2
        rw [if_neg h2]
        unfold aheadM at he ⊢
        split at he
        · rename_i h3
          rw [if_pos h3]
          exact ih _ _ (by rw [List.length_drop]; omega) h3
        · rename_i h3
          exact absurd (by simp) he
theorem bodyT_over {s : Sta} {l : List Fld} {f : Int × Int × Int} {k : Nat} {rest : List UInt8} (h : (bodyT s l f k rest).e ≠ 0) : (bodyT s l f k rest).over = false := by
  unfold bodyT at h ⊢
  split at h
  · rename_i h1
    rw [if_pos h1]
    split at h
    · rename_i h2
      rw [if_pos h2]
      rfl
    · exact absurd rfl h
  · exact absurd rfl h
theorem told_over {asks : Bool} {method b : List UInt8} (h : (toldM asks method b).e ≠ 0) : (toldM asks method b).over = false := by
  unfold toldM at h ⊢
  split
  · rfl
  · rename_i h1
    rw [if_neg h1] at h
    split
    · rfl
    · rename_i h2
      rw [if_neg h2] at h
      unfold headT at h ⊢
      split
      · rfl
      · rename_i h3
        rw [if_neg h3] at h
        split
        · rfl
        · rename_i h4
          rw [if_neg h4] at h
          split
          · rfl
          · rename_i h5
            rw [if_neg h5] at h
            exact bodyT_over h
/-- What is told behind a piece. -/
structure FedSays (R : List UInt8 × Nat × Int × Rd) (T : Told8) (asks : Bool) (method l out : List UInt8) (took : Nat) : Prop where
  err : R.2.2.1 = T.e
  done : (R.2.2.2.w == 3) = T.over
  bad : T.e ≠ 0 → R.1 = [] ∧ R.2.1 = 0 ∧ R.2.2.2.fault = T.e
  fed : T.e = 0 → Fed asks method l (out ++ R.1) (took + R.2.1) R.2.2.2
  took : T.e = 0 → took + R.2.1 = T.n
  framed : T.e = 0 → (¬ R.2.2.2.w < 2 ↔ T.framed = true)
  head : T.e = 0 → T.framed = true → R.2.2.2.start = T.start ∧ R.2.2.2.fields = T.fields
  body : T.e = 0 → out ++ R.1 = T.body
theorem fed_says {asks : Bool} {method l out : List UInt8} {took : Nat} {r : Rd} (h : Fed asks method l out took r) {b : List UInt8} {k : Nat} (hk : l.length ≤ k) (hl : l = b.take l.length) (hb : b.length ≤ 65535) :
    FedSays (runM r ((b.take k).drop took)) (toldM asks method (b.take k)) asks method (b.take k) out took := by
  have hs := told_says asks method (b.take k)
  have ho := told_over (asks := asks) (method := method) (b := b.take k)
  have hn := fed_next h hk hl hb
  rw [hn] at hs
  obtain ⟨R, hR⟩ : ∃ R, runM r ((b.take k).drop took) = R := ⟨_, rfl⟩
  have hw := runM_err_w _ r ((b.take k).drop took) (Nat.le_refl _)
  have hbad := runM_err r ((b.take k).drop took)
  rw [hR] at hs hw hbad hn ⊢
  obtain ⟨T, hT⟩ : ∃ T, toldM asks method (b.take k) = T := ⟨_, rfl⟩
  rw [hT] at hs ho ⊢
  have herr : R.2.2.1 = T.e := by
    have := hs.err
    unfold aheadM at this
    split at this
    · exact this
    · rename_i h3
      have h0 : R.2.2.1 = 0 := by simpa using h3
      rw [h0]; exact this
  by_cases he : T.e = 0
  · have hR0 : R.2.2.1 = 0 := by rw [herr, he]
    have ha : aheadM out took R = (out ++ R.1, took + R.2.1, 0, R.2.2.2) := by
      unfold aheadM
      rw [if_neg (by simpa using hR0)]
    rw [ha] at hs hn
    refine ⟨herr, ?_, fun h => absurd he h, fun _ => ⟨hn⟩, fun _ => hs.took he, fun _ => ?_, fun _ hf => hs.start he hf, fun _ => hs.body he⟩
    · have := hs.over he
      simp only at this
      rw [Bool.eq_iff_iff, beq_iff_eq]
      exact this
    · have := hs.framed he
      simp only at this
      rw [← this]
      omega
  · have hR0 : R.2.2.1 ≠ 0 := by rw [herr]; exact he
    refine ⟨herr, ?_, fun _ => ?_, fun h => absurd h he, fun h => absurd h he, fun h => absurd h he, fun h => absurd h he, fun h => absurd h he⟩
    · rw [ho he, beq_eq_false_iff_ne]
      exact hw hR0
    · have := hbad hR0
      exact ⟨this.1, this.2.1, by rw [this.2.2, herr]⟩
end IH
