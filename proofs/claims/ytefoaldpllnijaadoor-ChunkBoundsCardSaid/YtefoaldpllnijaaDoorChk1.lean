/- Layer 7 in plain Lean: a decoder of chunks, what is fed piece by piece is what is fed at once. No program in sight; no condition. -/
import Derived.Test.YtefoaldpllnijaaDoorFld1
import Derived.Test.YtefoaldpllnijaaDoorPm
namespace IH
set_option maxRecDepth 100000

/-- A line, without its end; how long it is (0: it isn't whole); the error. -/
def lineC (b : List UInt8) : List UInt8 × Nat × Int :=
  match (b.take 256).findIdx? (· == 10) with
  | none => if 256 ≤ b.length then ([], 0, 12) else ([], 0, 0)
  | some n => if n = 0 ∨ b[n - 1]? ≠ some 13 then ([], 0, 10) else (b.take (n - 1), n + 1, 0)
def isHex7 (c : UInt8) : Bool := decide (dig c < 16)
def extC (s : List UInt8) : Bool := match s with
  | [] => true
  | _ => match s.dropWhile isBlank with
    | c :: r => c == 59 && value (trim r)
    | [] => false
/-- A size line's; -1: it is none. -/
def hexHead (s : List UInt8) : List UInt8 := (s.take 8).takeWhile isHex7
def sizeC (s : List UInt8) : Int :=
  if (numR 16 4294967296 (hexHead s)).2 ≠ 0 ∨ extC (s.drop (hexHead s).length) = false then -1 else (numR 16 4294967296 (hexHead s)).1
/-- Where a decoder stands. -/
structure Dec where
  w : Int
  left : Int
  total : Int
  fields : Int
  fault : Int
def Dec.new : Dec := ⟨0, 0, 0, 0, 0⟩
def beginC (d : Dec) (s : List UInt8) : Int × Dec :=
  if sizeC s < 0 then (10, d) else if sizeC s = 0 then (0, { d with w := 3 })
  else if 1048576 - d.total < sizeC s then (12, d) else (0, { d with w := 1, left := sizeC s, total := d.total + sizeC s })
def tailC (d : Dec) (s : List UInt8) : Int × Dec :=
  if s = [] then (0, { d with w := 4 }) else if (parseFs (s ++ [13, 10, 13, 10])).2.2 ≠ 0 then (10, d)
  else (if 128 < d.fields + 1 then 13 else 0, { d with fields := d.fields + 1 })
/-- What comes next: octets, how many were taken, the error, the decoder. -/
def stepC (d : Dec) (b : List UInt8) : List UInt8 × Nat × Int × Dec :=
  if d.w = 1 then
    let n := min d.left.toNat b.length
    (b.take n, n, 0, { d with left := d.left - n, w := if d.left - n = 0 then 2 else 1 })
  else if d.w = 2 then
    if b.length < 2 then ([], 0, 0, d) else if b[0]? ≠ some 13 ∨ b[1]? ≠ some 10 then ([], 0, 10, d) else ([], 2, 0, { d with w := 0 })
  else if d.w = 4 then ([], 0, 0, d)
  else
    if (lineC b).2.2 ≠ 0 ∨ (lineC b).2.1 = 0 then ([], 0, (lineC b).2.2, d)
    else
      let r := if d.w = 0 then beginC d (lineC b).1 else tailC d (lineC b).1
      ([], (lineC b).2.1, r.1, r.2)
def runF : Nat → Dec → List UInt8 → List UInt8 × Nat × Int × Dec
  | 0, d, _ => ([], 0, 0, d)
  | f + 1, d, b =>
    let s := stepC d b
    if s.2.2.1 ≠ 0 then ([], 0, s.2.2.1, { s.2.2.2 with fault := s.2.2.1 })
    else if s.2.1 = 0 then (s.1, 0, 0, s.2.2.2)
    else
      let r := runF f s.2.2.2 (b.drop s.2.1)
      if r.2.2.1 ≠ 0 then ([], 0, r.2.2.1, r.2.2.2) else (s.1 ++ r.1, s.2.1 + r.2.1, 0, r.2.2.2)
def run (d : Dec) (b : List UInt8) : List UInt8 × Nat × Int × Dec := runF (b.length + 1) d b
/-- What was taken already, ahead of it. -/
def ahead (out : List UInt8) (n : Nat) (r : List UInt8 × Nat × Int × Dec) : List UInt8 × Nat × Int × Dec :=
  if r.2.2.1 ≠ 0 then ([], 0, r.2.2.1, r.2.2.2) else (out ++ r.1, n + r.2.1, 0, r.2.2.2)

theorem findIdx_lt {p : UInt8 → Bool} {l : List UInt8} {n : Nat} (h : l.findIdx? p = some n) : n < l.length := (List.findIdx?_eq_some_iff_getElem.1 h).1
theorem lineC_le {b s : List UInt8} {n : Nat} (h : lineC b = (s, n, 0)) : n ≤ b.length := by
  unfold lineC at h
  split at h
  · split at h
    · simp at h
    · simp only [Prod.mk.injEq] at h; omega
  · rename_i k hk
    have := findIdx_lt hk
    rw [List.length_take] at this
    split at h
    · simp at h
    · simp only [Prod.mk.injEq] at h; omega
theorem stepC_le {d : Dec} {b : List UInt8} : (stepC d b).2.1 ≤ b.length := by
  unfold stepC
  split
  · simp only; omega
  · split
    · split
      · simp
      · split
        · simp
        · simp only; omega
    · split
      · simp
      · split
        · simp
        · rename_i hc
          simp only
          have e : (lineC b).2.2 = 0 := by
            rcases Classical.em ((lineC b).2.2 = 0) with h | h
            · exact h
            · exact absurd (.inl h) hc
          exact lineC_le (s := (lineC b).1) (n := (lineC b).2.1) (by rw [← e])
theorem runF_more (f g : Nat) (d : Dec) (b : List UInt8) (hf : b.length < f) (hg : b.length < g) : runF f d b = runF g d b := by
  induction f generalizing g d b with
  | zero => omega
  | succ f ih =>
    cases g with
    | zero => omega
    | succ g =>
      have hle := stepC_le (d := d) (b := b)
      unfold runF
      simp only
      split
      · rfl
      · split
        · rfl
        · rename_i h0
          rw [ih g _ _ (by rw [List.length_drop]; omega) (by rw [List.length_drop]; omega)]
/-- One step, and the rest. -/
theorem run_step (d : Dec) (b : List UInt8) : run d b =
    if (stepC d b).2.2.1 ≠ 0 then ([], 0, (stepC d b).2.2.1, { (stepC d b).2.2.2 with fault := (stepC d b).2.2.1 })
    else if (stepC d b).2.1 = 0 then ((stepC d b).1, 0, 0, (stepC d b).2.2.2)
    else ahead (stepC d b).1 (stepC d b).2.1 (run (stepC d b).2.2.2 (b.drop (stepC d b).2.1)) := by
  have hle := stepC_le (d := d) (b := b)
  conv => lhs; unfold run runF
  simp only
  split
  · rfl
  · split
    · rfl
    · rename_i h0
      unfold ahead run
      rw [runF_more b.length ((b.drop (stepC d b).2.1).length + 1) _ _ (by rw [List.length_drop]; omega) (by omega)]
theorem ahead_ahead (o o2 : List UInt8) (n n2 : Nat) (r : List UInt8 × Nat × Int × Dec) : ahead o n (ahead o2 n2 r) = ahead (o ++ o2) (n + n2) r := by
  unfold ahead
  by_cases h : r.2.2.1 = 0
  · simp [h, Nat.add_assoc]
  · simp [h]
theorem ahead_nil (r : List UInt8 × Nat × Int × Dec) (h : r.2.2.1 ≠ 0 → r.1 = [] ∧ r.2.1 = 0) : ahead [] 0 r = r := by
  unfold ahead
  by_cases h0 : r.2.2.1 = 0
  · rw [if_neg (by simp [h0]), List.nil_append, Nat.zero_add, ← h0]
  · rw [if_pos h0, ← (h h0).1, ← (h h0).2]
theorem run_err (d : Dec) (b : List UInt8) (h : (run d b).2.2.1 ≠ 0) : (run d b).1 = [] ∧ (run d b).2.1 = 0 ∧ (run d b).2.2.2.fault = (run d b).2.2.1 := by
  have key : ∀ (n : Nat) (d : Dec) (b : List UInt8), b.length ≤ n → (run d b).2.2.1 ≠ 0 → (run d b).1 = [] ∧ (run d b).2.1 = 0 ∧ (run d b).2.2.2.fault = (run d b).2.2.1 := by
    intro n
    induction n with
    | zero =>
      intro d b hb h
      rw [run_step] at h ⊢
      have hle := stepC_le (d := d) (b := b)
      split
      · exact ⟨rfl, rfl, rfl⟩
      · rename_i h1
        rw [if_neg h1, if_pos (by omega)] at h
        simp at h
    | succ n ih =>
      intro d b hb h
      rw [run_step] at h ⊢
      have hle := stepC_le (d := d) (b := b)
      split
      · exact ⟨rfl, rfl, rfl⟩
      · rename_i h1
        rw [if_neg h1] at h
        split
        · rename_i h2
          rw [if_pos h2] at h; simp at h
        · rename_i h2
          rw [if_neg h2] at h
          unfold ahead at h ⊢
          split
          · rename_i h3
            exact ⟨rfl, rfl, (ih _ _ (by rw [List.length_drop]; omega) h3).2.2⟩
          · rename_i h3
            rw [if_neg h3] at h; simp at h
  exact key b.length d b (Nat.le_refl _) h

/-! More octets behind. -/
theorem findIdx_append {p : UInt8 → Bool} {l : List UInt8} {n : Nat} (h : l.findIdx? p = some n) (c : List UInt8) : (l ++ c).findIdx? p = some n := by
  rw [List.findIdx?_append, h]; rfl
theorem lineC_more {b : List UInt8} (c : List UInt8) (h : (lineC b).2.2 ≠ 0 ∨ (lineC b).2.1 ≠ 0) : lineC (b ++ c) = lineC b := by
  unfold lineC at h ⊢
  have e : (b ++ c).take 256 = b.take 256 ++ c.take (256 - b.length) := List.take_append
  cases hf : (b.take 256).findIdx? (· == 10) with
  | none =>
    rw [hf] at h
    simp only at h
    split at h
    · rename_i hl
      have e2 : (b ++ c).take 256 = b.take 256 := by rw [e, show 256 - b.length = 0 by omega]; simp
      rw [e2, hf]
      simp only
      rw [if_pos hl, if_pos (by rw [List.length_append]; omega)]
    · simp at h
  | some n =>
    have hn := findIdx_lt hf
    rw [List.length_take] at hn
    rw [e, findIdx_append hf]
    simp only
    rw [List.getElem?_append_left (by omega), List.take_append_of_le_length (by omega)]
theorem step_more (d : Dec) (b c : List UInt8) (h : (stepC d b).2.2.1 ≠ 0 ∨ (stepC d b).2.1 ≠ 0) (hp : d.w = 1 → d.left.toNat ≤ b.length) : stepC d (b ++ c) = stepC d b := by
  unfold stepC at h ⊢
  split at h
  · rename_i hw
    have hl := hp hw
    rw [if_pos hw, if_pos hw]
    have e : min d.left.toNat (b ++ c).length = min d.left.toNat b.length := by rw [List.length_append]; omega
    simp only
    rw [e, List.take_append_of_le_length (by omega)]
  · rename_i hw
    rw [if_neg hw, if_neg hw]
    split at h
    · rename_i hw2
      rw [if_pos hw2, if_pos hw2]
      split at h
      · simp at h
      · rename_i hl
        rw [if_neg hl, if_neg (by rw [List.length_append]; omega), List.getElem?_append_left (by omega), List.getElem?_append_left (by omega)]
    · rename_i hw2
      rw [if_neg hw2, if_neg hw2]
      split at h
      · simp at h
      · rename_i hw4
        rw [if_neg hw4, if_neg hw4]
        have hl : (lineC b).2.2 ≠ 0 ∨ (lineC b).2.1 ≠ 0 := by
          split at h
          · rename_i hc
            rcases hc with hc | hc
            · exact .inl hc
            · rcases h with h | h
              · exact .inl h
              · simp at h
          · rename_i hc
            right
            intro h0; exact hc (.inr h0)
        rw [lineC_more c hl]
theorem run_idle (d : Dec) (b : List UInt8) (h : (stepC d b).2.2.1 = 0) (h0 : (stepC d b).2.1 = 0) (hx : (stepC d b).1 = [] ∧ (stepC d b).2.2.2 = d) : run d b = ([], 0, 0, d) := by
  rw [run_step, if_neg (by simp [h]), if_pos h0, hx.1, hx.2]
/-- A step that takes nothing leaves the decoder, but within a chunk of which nothing is left. -/
theorem step_none (d : Dec) (b : List UInt8) (hd : d.w = 1 → 0 < d.left) (h : (stepC d b).2.2.1 = 0) (h0 : (stepC d b).2.1 = 0) : (stepC d b).1 = [] ∧ (stepC d b).2.2.2 = d := by
  unfold stepC at h h0 ⊢
  split at h0
  · rename_i hw
    rw [if_pos hw]
    simp only at h0 ⊢
    have hl := hd hw
    rw [h0]
    refine ⟨by simp, ?_⟩
    rw [if_neg (by simp; omega)]
    obtain ⟨w, left, total, fields, fault⟩ := d
    simp only at hw
    simp [hw]
  · rename_i hw
    rw [if_neg hw] at h ⊢
    split at h0
    · rename_i hw2
      rw [if_pos hw2] at h ⊢
      split at h0
      · rename_i hl; rw [if_pos hl]; exact ⟨rfl, rfl⟩
      · rename_i hl
        rw [if_neg hl] at h ⊢
        split at h0
        · rename_i hc; rw [if_pos hc]; exact ⟨rfl, rfl⟩
        · simp at h0
    · rename_i hw2
      rw [if_neg hw2] at h ⊢
      split at h0
      · rename_i hw4; rw [if_pos hw4]; exact ⟨rfl, rfl⟩
      · rename_i hw4
        rw [if_neg hw4] at h ⊢
        split at h0
        · rename_i hc; rw [if_pos hc]; exact ⟨rfl, rfl⟩
        · rename_i hc
          exfalso
          exact hc (.inr h0)
/-- A decoder as it stands between steps. -/
def Sound (d : Dec) : Prop := d.w = 1 → 0 < d.left
theorem beginC_sound (d : Dec) (s : List UInt8) (hw : d.w = 0) : Sound (beginC d s).2 := by
  unfold beginC Sound
  split
  · intro h; simp only at h; omega
  · split
    · intro h; simp at h
    · split
      · intro h; simp only at h; omega
      · rename_i h1 h2 _; intro _; simp only; omega
theorem step_sound (d : Dec) (b : List UInt8) (hd : Sound d) : Sound (stepC d b).2.2.2 := by
  unfold stepC
  split
  · rename_i hw
    have := hd hw
    unfold Sound
    simp only
    split
    · intro h; simp at h
    · intro _; omega
  · rename_i hw
    split
    · split
      · exact hd
      · split
        · exact hd
        · intro h; simp at h
    · split
      · exact hd
      · split
        · exact hd
        · simp only
          split
          · rename_i hw0
            exact beginC_sound d _ hw0
          · rename_i hw0
            unfold tailC
            split
            · intro h; simp at h
            · split
              · exact hd
              · exact hd
/-- Fed in two pieces. -/
theorem run_more : ∀ (n : Nat) (d : Dec) (b c : List UInt8), b.length ≤ n → Sound d →
    run d (b ++ c) = if (run d b).2.2.1 ≠ 0 then run d b else ahead (run d b).1 (run d b).2.1 (run (run d b).2.2.2 (b.drop (run d b).2.1 ++ c)) := by
  intro n
  induction n with
  | zero =>
    intro d b c hb hd
    obtain rfl : b = [] := List.eq_nil_of_length_eq_zero (by omega)
    have hle := stepC_le (d := d) (b := [])
    have h0 : (stepC d []).2.1 = 0 := by simpa using hle
    by_cases he : (stepC d []).2.2.1 = 0
    · have hx := step_none d [] hd he h0
      rw [run_idle d [] he h0 hx]
      simp only [ne_eq, not_true_eq_false, if_false, List.drop_nil]
      rw [ahead_nil _ fun h => ⟨(run_err d _ h).1, (run_err d _ h).2.1⟩]
    · exfalso
      apply he
      unfold stepC
      split
      · rfl
      · split
        · rfl
        · split
          · rfl
          · have : lineC [] = ([], 0, 0) := rfl
            rw [this]; rfl
  | succ n ih =>
    intro d b c hb hd
    have hle := stepC_le (d := d) (b := b)
    by_cases he : (stepC d b).2.2.1 = 0
    · by_cases h0 : (stepC d b).2.1 = 0
      · have hx := step_none d b hd he h0
        rw [run_idle d b he h0 hx]
        simp only [ne_eq, not_true_eq_false, if_false, List.drop_zero]
        rw [ahead_nil _ fun h => ⟨(run_err d _ h).1, (run_err d _ h).2.1⟩]
      · by_cases hp : d.w = 1 → d.left.toNat ≤ b.length
        · have hs := step_more d b c (.inr h0) hp
          have hs2 := step_sound d b hd
          have hr := run_step d (b ++ c)
          have hr2 := run_step d b
          rw [hs, if_neg (by simp [he]), if_neg h0] at hr
          rw [if_neg (by simp [he]), if_neg h0] at hr2
          have hdr : (b ++ c).drop (stepC d b).2.1 = b.drop (stepC d b).2.1 ++ c := by
            rw [List.drop_append, show (stepC d b).2.1 - b.length = 0 by omega]; simp
          rw [hdr, ih _ _ c (by rw [List.length_drop]; omega) hs2] at hr
          rw [hr, hr2]
          generalize run (stepC d b).2.2.2 (b.drop (stepC d b).2.1) = R
          by_cases hR : R.2.2.1 = 0
          · have e1 : ahead (stepC d b).1 (stepC d b).2.1 R = ((stepC d b).1 ++ R.1, (stepC d b).2.1 + R.2.1, 0, R.2.2.2) := by unfold ahead; rw [if_neg (by simp [hR])]
            rw [e1]
            simp only [hR, ne_eq, not_true_eq_false, if_false]
            rw [ahead_ahead, List.drop_drop]
          · have e1 : ahead (stepC d b).1 (stepC d b).2.1 R = ([], 0, R.2.2.1, R.2.2.2) := by unfold ahead; rw [if_pos hR]
            rw [e1, if_pos hR, if_pos hR, e1]
        · simp only [Classical.not_imp] at hp
          obtain ⟨hw, hlt⟩ := hp
          have hl := hd hw
          have hS : stepC d b = (b, b.length, 0, { d with left := d.left - b.length, w := 1 }) := by
            unfold stepC
            rw [if_pos hw]
            have e : min d.left.toNat b.length = b.length := by omega
            simp only
            rw [e, List.take_length, if_neg (by omega)]
          obtain ⟨d1, hd1⟩ : ∃ d1, d1 = ({ d with left := d.left - b.length, w := 1 } : Dec) := ⟨_, rfl⟩
          rw [← hd1] at hS
          have w1 : d1.w = 1 := by rw [hd1]
          have l1 : d1.left = d.left - b.length := by rw [hd1]
          have hI : run d1 [] = ([], 0, 0, d1) := by
            have hn : (stepC d1 []).2.2.1 = 0 ∧ (stepC d1 []).2.1 = 0 := by unfold stepC; rw [if_pos w1]; simp
            exact run_idle d1 [] hn.1 hn.2 (step_none d1 [] (fun _ => by rw [l1]; omega) hn.1 hn.2)
          have hR : run d b = (b, b.length, 0, d1) := by
            rw [run_step, hS]
            simp only [ne_eq, not_true_eq_false, if_false]
            rw [hS] at h0
            rw [if_neg h0, List.drop_length, hI]
            simp [ahead]
          rw [hR]
          simp only [ne_eq, not_true_eq_false, if_false, List.drop_length, List.nil_append]
          by_cases hc : c = []
          · subst hc
            rw [List.append_nil, hR, hI]
            simp [ahead]
          · have hcl : 0 < c.length := List.length_pos_iff.2 hc
            have hbl : 0 < b.length := by rw [hS] at h0; simp only at h0; omega
            have hm1 : min d.left.toNat (b ++ c).length = b.length + min d1.left.toNat c.length := by rw [List.length_append, l1]; omega
            have hA : stepC d (b ++ c) = (b ++ c.take (min d1.left.toNat c.length), b.length + min d1.left.toNat c.length, 0, (stepC d1 c).2.2.2) := by
              unfold stepC
              rw [if_pos hw, if_pos w1]
              simp only
              rw [hm1]
              have e1 : (b ++ c).take (b.length + min d1.left.toNat c.length) = b ++ c.take (min d1.left.toNat c.length) := by
                rw [List.take_append, List.take_of_length_le (by omega)]
                congr 2
                omega
              have e2 : d.left - ((b.length + min d1.left.toNat c.length : Nat) : Int) = d1.left - ((min d1.left.toNat c.length : Nat) : Int) := by rw [l1]; omega
              rw [e1, e2]
              rw [hd1]
            have hB : stepC d1 c = (c.take (min d1.left.toNat c.length), min d1.left.toNat c.length, 0, (stepC d1 c).2.2.2) := by
              unfold stepC
              rw [if_pos w1]
            have hpos : 0 < min d1.left.toNat c.length := by rw [l1]; omega
            rw [run_step d (b ++ c), hA]
            simp only [ne_eq, not_true_eq_false, if_false]
            rw [if_neg (by omega), run_step d1 c, hB]
            simp only [ne_eq, not_true_eq_false, if_false]
            rw [if_neg (by omega), ahead_ahead]
            congr 2
            rw [List.drop_append, List.drop_eq_nil_of_le (by omega), List.nil_append]
            congr 1
            omega
    · have hp : d.w = 1 → d.left.toNat ≤ b.length := by
        intro hw
        exfalso
        apply he
        unfold stepC
        rw [if_pos hw]
      have hs := step_more d b c (.inl he) hp
      have hR : run d b = ([], 0, (stepC d b).2.2.1, { (stepC d b).2.2.2 with fault := (stepC d b).2.2.1 }) := by rw [run_step, if_pos he]
      have hR2 : run d (b ++ c) = ([], 0, (stepC d b).2.2.1, { (stepC d b).2.2.2 with fault := (stepC d b).2.2.1 }) := by rw [run_step, hs, if_pos he]
      rw [hR2, hR]
      simp [he]
theorem new_sound : Sound Dec.new := by intro h; cases h
/-- Fed on: what all so far say. -/
theorem feed_on {b c out : List UInt8} {n : Nat} {d : Dec} (h : run Dec.new b = (out, n, 0, d)) (hn : n ≤ b.length) : run Dec.new (b ++ c) = ahead out n (run d ((b ++ c).drop n)) := by
  rw [run_more b.length _ b c (Nat.le_refl _) new_sound, h]
  simp only [ne_eq, not_true_eq_false, if_false]
  rw [List.drop_append, show n - b.length = 0 by omega]
  simp
theorem run_le : ∀ (k : Nat) (d : Dec) (b : List UInt8), b.length ≤ k → (run d b).2.1 ≤ b.length := by
  intro k
  induction k with
  | zero =>
    intro d b hb
    have hle := stepC_le (d := d) (b := b)
    rw [run_step]
    split
    · simp
    · rw [if_pos (by omega)]; simp
  | succ k ih =>
    intro d b hb
    have hle := stepC_le (d := d) (b := b)
    rw [run_step]
    split
    · simp
    · split
      · simp
      · unfold ahead
        split
        · simp
        · have := ih (stepC d b).2.2.2 (b.drop (stepC d b).2.1) (by rw [List.length_drop]; omega)
          rw [List.length_drop] at this
          simp only
          omega
theorem feed_err {b c : List UInt8} (h : (run Dec.new b).2.2.1 ≠ 0) : run Dec.new (b ++ c) = run Dec.new b := by
  rw [run_more b.length _ b c (Nat.le_refl _) new_sound, if_pos h]
end IH
