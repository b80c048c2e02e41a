/- Ck: several texts, one behind the other. -/
import Derived.Test.YtniiadhhefgmcaaGreatDoorFa
import Derived.Test.YtniiadhhefgmcaaGreatDoorPm
/- Layer 7 in plain Lean: a decoder of chunks, what is fed piece by piece is what is fed at once. No program in sight; no condition. -/
namespace IH
set_option maxRecDepth 100000

/-- A line, without its end; how long it is (0: it isn't whole); the error. -/
def lineC (b : List UInt8) : List UInt8 × Nat × Int :=
  match (b.take 256).findIdx? (· == 10) with
  | none => if 256 ≤ b.length then ([], 0, 12) else ([], 0, 0)
  | some n => if n = 0 ∨ b[n - 1]? ≠ some 13 then ([], 0, 10) else (b.take (n - 1), n + 1, 0)
def isHex7 (c : UInt8) : Bool := decide (dig c < 16)
def extC (s : List UInt8) : Bool := match s with
  | [] => true
  | _ => match s.dropWhile isBlank with
    | c :: r => c == 59 && value (trim r)
    | [] => false
/-- A size line's; -1: it is none. -/
def hexHead (s : List UInt8) : List UInt8 := (s.take 8).takeWhile isHex7
def sizeC (s : List UInt8) : Int :=
  if (numR 16 4294967296 (hexHead s)).2 ≠ 0 ∨ extC (s.drop (hexHead s).length) = false then -1 else (numR 16 4294967296 (hexHead s)).1
/-- Where a decoder stands. -/
structure Dec where
  w : Int
  left : Int
  total : Int
  fields : Int
  fault : Int
def Dec.new : Dec := ⟨0, 0, 0, 0, 0⟩
def beginC (d : Dec) (s : List UInt8) : Int × Dec :=
  if sizeC s < 0 then (10, d) else if sizeC s = 0 then (0, { d with w := 3 })
  else if 1048576 - d.total < sizeC s then (12, d) else (0, { d with w := 1, left := sizeC s, total := d.total + sizeC s })
def tailC (d : Dec) (s : List UInt8) : Int × Dec :=
  if s = [] then (0, { d with w := 4 }) else if (parseFs (s ++ [13, 10, 13, 10])).2.2 ≠ 0 then (10, d)
  else (if 128 < d.fields + 1 then 13 else 0, { d with fields := d.fields + 1 })
/-- What comes next: octets, how many were taken, the error, the decoder. -/
def stepC (d : Dec) (b : List UInt8) : List UInt8 × Nat × Int × Dec :=
  if d.w = 1 then
    let n := min d.left.toNat b.length
    (b.take n, n, 0, { d with left := d.left - n, w := if d.left - n = 0 then 2 else 1 })
  else if d.w = 2 then
    if b.length < 2 then ([], 0, 0, d) else if b[0]? ≠ some 13 ∨ b[1]? ≠ some 10 then ([], 0, 10, d) else ([], 2, 0, { d with w := 0 })
  else if d.w = 4 then ([], 0, 0, d)
  else
    if (lineC b).2.2 ≠ 0 ∨ (lineC b).2.1 = 0 then ([], 0, (lineC b).2.2, d)
    else
      let r := if d.w = 0 then beginC d (lineC b).1 else tailC d (lineC b).1
      ([], (lineC b).2.1, r.1, r.2)
def runF : Nat → Dec → List UInt8 → List UInt8 × Nat × Int × Dec
  | 0, d, _ => ([], 0, 0, d)
  | f + 1, d, b =>
    let s := stepC d b
    if s.2.2.1 ≠ 0 then ([], 0, s.2.2.1, { s.2.2.2 with fault := s.2.2.1 })
    else if s.2.1 = 0 then (s.1, 0, 0, s.2.2.2)
    else
      let r := runF f s.2.2.2 (b.drop s.2.1)
      if r.2.2.1 ≠ 0 then ([], 0, r.2.2.1, r.2.2.2) else (s.1 ++ r.1, s.2.1 + r.2.1, 0, r.2.2.2)
def run (d : Dec) (b : List UInt8) : List UInt8 × Nat × Int × Dec := runF (b.length + 1) d b
/-- What was taken already, ahead of it. -/
def ahead (out : List UInt8) (n : Nat) (r : List UInt8 × Nat × Int × Dec) : List UInt8 × Nat × Int × Dec :=
  if r.2.2.1 ≠ 0 then ([], 0, r.2.2.1, r.2.2.2) else (out ++ r.1, n + r.2.1, 0, r.2.2.2)

theorem findIdx_lt {p : UInt8 → Bool} {l : List UInt8} {n : Nat} (h : l.findIdx? p = some n) : n < l.length := (List.findIdx?_eq_some_iff_getElem.1 h).1
theorem lineC_le {b s : List UInt8} {n : Nat} (h : lineC b = (s, n, 0)) : n ≤ b.length := by
  unfold lineC at h
  split at h
  · split at h
    · simp at h
    · simp only [Prod.mk.injEq] at h; omega
  · rename_i k hk
    have := findIdx_lt hk
    rw [List.length_take] at this
    split at h
    · simp at h
    · simp only [Prod.mk.injEq] at h; omega
theorem stepC_le {d : Dec} {b : List UInt8} : (stepC d b).2.1 ≤ b.length := by
  unfold stepC
  split
  · simp only; omega
  · split
    · split
      · simp
      · split
        · simp
        · simp only; omega
    · split
      · simp
      · split
        · simp
        · rename_i hc
          simp only
          have e : (lineC b).2.2 = 0 := by
            rcases Classical.em ((lineC b).2.2 = 0) with h | h
            · exact h
            · exact absurd (.inl h) hc
          exact lineC_le (s := (lineC b).1) (n := (lineC b).2.1) (by rw [← e])
theorem runF_more (f g : Nat) (d : Dec) (b : List UInt8) (hf : b.length < f) (hg : b.length < g) : runF f d b = runF g d b := by
  induction f generalizing g d b with
  | zero => omega
  | succ f ih =>
    cases g with
    | zero => omega
    | succ g =>
      have hle := stepC_le (d := d) (b := b)
      unfold runF
      simp only
      split
      · rfl
      · split
        · rfl
        · rename_i h0
          rw [ih g _ _ (by rw [List.length_drop]; omega) (by rw [List.length_drop]; omega)]
/-- One step, and the rest. -/
theorem run_step (d : Dec) (b : List UInt8) : run d b =
    if (stepC d b).2.2.1 ≠ 0 then ([], 0, (stepC d b).2.2.1, { (stepC d b).2.2.2 with fault := (stepC d b).2.2.1 })
    else if (stepC d b).2.1 = 0 then ((stepC d b).1, 0, 0, (stepC d b).2.2.2)
    else ahead (stepC d b).1 (stepC d b).2.1 (run (stepC d b).2.2.2 (b.drop (stepC d b).2.1)) := by
  have hle := stepC_le (d := d) (b := b)
  conv => lhs; unfold run runF
  simp only
  split
  · rfl
  · split
    · rfl
    · rename_i h0
      unfold ahead run
      rw [runF_more b.length ((b.drop (stepC d b).2.1).length + 1) _ _ (by rw [List.length_drop]; omega) (by omega)]
theorem ahead_ahead (o o2 : List UInt8) (n n2 : Nat) (r : List UInt8 × Nat × Int × Dec) : ahead o n (ahead o2 n2 r) = ahead (o ++ o2) (n + n2) r := by
  unfold ahead
  by_cases h : r.2.2.1 = 0
  · simp [h, Nat.add_assoc]
  · simp [h]
theorem ahead_nil (r : List UInt8 × Nat × Int × Dec) (h : r.2.2.1 ≠ 0 → r.1 = [] ∧ r.2.1 = 0) : ahead [] 0 r = r := by
  unfold ahead
  by_cases h0 : r.2.2.1 = 0
  · rw [if_neg (by simp [h0]), List.nil_append, Nat.zero_add, ← h0]
  · rw [if_pos h0, ← (h h0).1, ← (h h0).2]
theorem run_err (d : Dec) (b : List UInt8) (h : (run d b).2.2.1 ≠ 0) : (run d b).1 = [] ∧ (run d b).2.1 = 0 ∧ (run d b).2.2.2.fault = (run d b).2.2.1 := by
  have key : ∀ (n : Nat) (d : Dec) (b : List UInt8), b.length ≤ n → (run d b).2.2.1 ≠ 0 → (run d b).1 = [] ∧ (run d b).2.1 = 0 ∧ (run d b).2.2.2.fault = (run d b).2.2.1 := by
    intro n
    induction n with
    | zero =>
      intro d b hb h
      rw [run_step] at h ⊢
      have hle := stepC_le (d := d) (b := b)
      split
      · exact ⟨rfl, rfl, rfl⟩
      · rename_i h1
        rw [if_neg h1, if_pos (by omega)] at h
        simp at h
    | succ n ih =>
      intro d b hb h
      rw [run_step] at h ⊢
      have hle := stepC_le (d := d) (b := b)
      split
      · exact ⟨rfl, rfl, rfl⟩
      · rename_i h1
        rw [if_neg h1] at h
        split
        · rename_i h2
          rw [if_pos h2] at h; simp at h
        · rename_i h2
          rw [if_neg h2] at h
          unfold ahead at h ⊢
          split
          · rename_i h3
            exact ⟨rfl, rfl, (ih _ _ (by rw [List.length_drop]; omega) h3).2.2⟩
          · rename_i h3
            rw [if_neg h3] at h; simp at h
  exact key b.length d b (Nat.le_refl _) h

/-! More octets behind. -/
theorem findIdx_append {p : UInt8 → Bool} {l : List UInt8} {n : Nat} (h : l.findIdx? p = some n) (c : List UInt8) : (l ++ c).findIdx? p = some n := by
  rw [List.findIdx?_append, h]; rfl
theorem lineC_more {b : List UInt8} (c : List UInt8) (h : (lineC b).2.2 ≠ 0 ∨ (lineC b).2.1 ≠ 0) : lineC (b ++ c) = lineC b := by
  unfold lineC at h ⊢
  have e : (b ++ c).take 256 = b.take 256 ++ c.take (256 - b.length) := List.take_append
  cases hf : (b.take 256).findIdx? (· == 10) with
  | none =>
    rw [hf] at h
    simp only at h
    split at h
    · rename_i hl
      have e2 : (b ++ c).take 256 = b.take 256 := by rw [e, show 256 - b.length = 0 by omega]; simp
      rw [e2, hf]
      simp only
      rw [if_pos hl, if_pos (by rw [List.length_append]; omega)]
    · simp at h
  | some n =>
    have hn := findIdx_lt hf
    rw [List.length_take] at hn
    rw [e, findIdx_append hf]
    simp only
    rw [List.getElem?_append_left (by omega), List.take_append_of_le_length (by omega)]
theorem step_more (d : Dec) (b c : List UInt8) (h : (stepC d b).2.2.1 ≠ 0 ∨ (stepC d b).2.1 ≠ 0) (hp : d.w = 1 → d.left.toNat ≤ b.length) : stepC d (b ++ c) = stepC d b := by
  unfold stepC at h ⊢
  split at h
  · rename_i hw
    have hl := hp hw
    rw [if_pos hw, if_pos hw]
    have e : min d.left.toNat (b ++ c).length = min d.left.toNat b.length := by rw [List.length_append]; omega
    simp only
    rw [e, List.take_append_of_le_length (by omega)]
  · rename_i hw
    rw [if_neg hw, if_neg hw]
    split at h
    · rename_i hw2
      rw [if_pos hw2, if_pos hw2]
      split at h
      · simp at h
      · rename_i hl
        rw [if_neg hl, if_neg (by rw [List.length_append]; omega), List.getElem?_append_left (by omega), List.getElem?_append_left (by omega)]
    · rename_i hw2
      rw [if_neg hw2, if_neg hw2]
      split at h
      · simp at h
      · rename_i hw4
        rw [if_neg hw4, if_neg hw4]
        have hl : (lineC b).2.2 ≠ 0 ∨ (lineC b).2.1 ≠ 0 := by
          split at h
          · rename_i hc
            rcases hc with hc | hc
            · exact .inl hc
            · rcases h with h | h
              · exact .inl h
              · simp at h
          · rename_i hc
            right
            intro h0; exact hc (.inr h0)
        rw [lineC_more c hl]
theorem run_idle (d : Dec) (b : List UInt8) (h : (stepC d b).2.2.1 = 0) (h0 : (stepC d b).2.1 = 0) (hx : (stepC d b).1 = [] ∧ (stepC d b).2.2.2 = d) : run d b = ([], 0, 0, d) := by
  rw [run_step, if_neg (by simp [h]), if_pos h0, hx.1, hx.2]
/-- A step that takes nothing leaves the decoder, but within a chunk of which nothing is left. -/
theorem step_none (d : Dec) (b : List UInt8) (hd : d.w = 1 → 0 < d.left) (h : (stepC d b).2.2.1 = 0) (h0 : (stepC d b).2.1 = 0) : (stepC d b).1 = [] ∧ (stepC d b).2.2.2 = d := by
  unfold stepC at h h0 ⊢
  split at h0
  · rename_i hw
    rw [if_pos hw]
    simp only at h0 ⊢
    have hl := hd hw
    rw [h0]
    refine ⟨by simp, ?_⟩
    rw [if_neg (by simp; omega)]
    obtain ⟨w, left, total, fields, fault⟩ := d
    simp only at hw
    simp [hw]
  · rename_i hw
    rw [if_neg hw] at h ⊢
    split at h0
    · rename_i hw2
      rw [if_pos hw2] at h ⊢
      split at h0
      · rename_i hl; rw [if_pos hl]; exact ⟨rfl, rfl⟩
      · rename_i hl
        rw [if_neg hl] at h ⊢
        split at h0
        · rename_i hc; rw [if_pos hc]; exact ⟨rfl, rfl⟩
        · simp at h0
    · rename_i hw2
      rw [if_neg hw2] at h ⊢
      split at h0
      · rename_i hw4; rw [if_pos hw4]; exact ⟨rfl, rfl⟩
      · rename_i hw4
        rw [if_neg hw4] at h ⊢
        split at h0
        · rename_i hc; rw [if_pos hc]; exact ⟨rfl, rfl⟩
        · rename_i hc
          exfalso
          exact hc (.inr h0)
/-- A decoder as it stands between steps. -/
def Sound (d : Dec) : Prop := d.w = 1 → 0 < d.left
theorem beginC_sound (d : Dec) (s : List UInt8) (hw : d.w = 0) : Sound (beginC d s).2 := by
  unfold beginC Sound
  split
  · intro h; simp only at h; omega
  · split
    · intro h; simp at h
    · split
      · intro h; simp only at h; omega
      · rename_i h1 h2 _; intro _; simp only; omega
theorem step_sound (d : Dec) (b : List UInt8) (hd : Sound d) : Sound (stepC d b).2.2.2 := by
  unfold stepC
  split
  · rename_i hw
    have := hd hw
    unfold Sound
    simp only
    split
    · intro h; simp at h
    · intro _; omega
  · rename_i hw
    split
    · split
      · exact hd
      · split
        · exact hd
        · intro h; simp at h
    · split
      · exact hd
      · split
        · exact hd
        · simp only
          split
          · rename_i hw0
            exact beginC_sound d _ hw0
          · rename_i hw0
            unfold tailC
            split
            · intro h; simp at h
            · split
              · exact hd
              · exact hd
/-- Fed in two pieces. -/
theorem run_more : ∀ (n : Nat) (d : Dec) (b c : List UInt8), b.length ≤ n → Sound d →
    run d (b ++ c) = if (run d b).2.2.1 ≠ 0 then run d b else ahead (run d b).1 (run d b).2.1 (run (run d b).2.2.2 (b.drop (run d b).2.1 ++ c)) := by
  intro n
  induction n with
  | zero =>
    intro d b c hb hd
    obtain rfl : b = [] := List.eq_nil_of_length_eq_zero (by omega)
    have hle := stepC_le (d := d) (b := [])
    have h0 : (stepC d []).2.1 = 0 := by simpa using hle
    by_cases he : (stepC d []).2.2.1 = 0
    · have hx := step_none d [] hd he h0
      rw [run_idle d [] he h0 hx]
      simp only [ne_eq, not_true_eq_false, if_false, List.drop_nil]
      rw [ahead_nil _ fun h => ⟨(run_err d _ h).1, (run_err d _ h).2.1⟩]
    · exfalso
      apply he
      unfold stepC
      split
      · rfl
      · split
        · rfl
        · split
          · rfl
          · have : lineC [] = ([], 0, 0) := rfl
            rw [this]; rfl
  | succ n ih =>
    intro d b c hb hd
    have hle := stepC_le (d := d) (b := b)
    by_cases he : (stepC d b).2.2.1 = 0
    · by_cases h0 : (stepC d b).2.1 = 0
      · have hx := step_none d b hd he h0
        rw [run_idle d b he h0 hx]
        simp only [ne_eq, not_true_eq_false, if_false, List.drop_zero]
        rw [ahead_nil _ fun h => ⟨(run_err d _ h).1, (run_err d _ h).2.1⟩]
      · by_cases hp : d.w = 1 → d.left.toNat ≤ b.length
        · have hs := step_more d b c (.inr h0) hp
          have hs2 := step_sound d b hd
          have hr := run_step d (b ++ c)
          have hr2 := run_step d b
          rw [hs, if_neg (by simp [he]), if_neg h0] at hr
          rw [if_neg (by simp [he]), if_neg h0] at hr2
          have hdr : (b ++ c).drop (stepC d b).2.1 = b.drop (stepC d b).2.1 ++ c := by
            rw [List.drop_append, show (stepC d b).2.1 - b.length = 0 by omega]; simp
          rw [hdr, ih _ _ c (by rw [List.length_drop]; omega) hs2] at hr
          rw [hr, hr2]
          generalize run (stepC d b).2.2.2 (b.drop (stepC d b).2.1) = R
          by_cases hR : R.2.2.1 = 0
          · have e1 : ahead (stepC d b).1 (stepC d b).2.1 R = ((stepC d b).1 ++ R.1, (stepC d b).2.1 + R.2.1, 0, R.2.2.2) := by unfold ahead; rw [if_neg (by simp [hR])]
            rw [e1]
            simp only [hR, ne_eq, not_true_eq_false, if_false]
            rw [ahead_ahead, List.drop_drop]
          · have e1 : ahead (stepC d b).1 (stepC d b).2.1 R = ([], 0, R.2.2.1, R.2.2.2) := by unfold ahead; rw [if_pos hR]
            rw [e1, if_pos hR, if_pos hR, e1]
        · simp only [Classical.not_imp] at hp
          obtain ⟨hw, hlt⟩ := hp
          have hl := hd hw
          have hS : stepC d b = (b, b.length, 0, { d with left := d.left - b.length, w := 1 }) := by
            unfold stepC
            rw [if_pos hw]
            have e : min d.left.toNat b.length = b.length := by omega
            simp only
            rw [e, List.take_length, if_neg (by omega)]
          obtain ⟨d1, hd1⟩ : ∃ d1, d1 = ({ d with left := d.left - b.length, w := 1 } : Dec) := ⟨_, rfl⟩
          rw [← hd1] at hS
          have w1 : d1.w = 1 := by rw [hd1]
          have l1 : d1.left = d.left - b.length := by rw [hd1]
          have hI : run d1 [] = ([], 0, 0, d1) := by
            have hn : (stepC d1 []).2.2.1 = 0 ∧ (stepC d1 []).2.1 = 0 := by unfold stepC; rw [if_pos w1]; simp
            exact run_idle d1 [] hn.1 hn.2 (step_none d1 [] (fun _ => by rw [l1]; omega) hn.1 hn.2)
          have hR : run d b = (b, b.length, 0, d1) := by
            rw [run_step, hS]
            simp only [ne_eq, not_true_eq_false, if_false]
            rw [hS] at h0
            rw [if_neg h0, List.drop_length, hI]
            simp [ahead]
          rw [hR]
          simp only [ne_eq, not_true_eq_false, if_false, List.drop_length, List.nil_append]
          by_cases hc : c = []
          · subst hc
            rw [List.append_nil, hR, hI]
            simp [ahead]
          · have hcl : 0 < c.length := List.length_pos_iff.2 hc
            have hbl : 0 < b.length := by rw [hS] at h0; simp only at h0; omega
            have hm1 : min d.left.toNat (b ++ c).length = b.length + min d1.left.toNat c.length := by rw [List.length_append, l1]; omega
            have hA : stepC d (b ++ c) = (b ++ c.take (min d1.left.toNat c.length), b.length + min d1.left.toNat c.length, 0, (stepC d1 c).2.2.2) := by
              unfold stepC
              rw [if_pos hw, if_pos w1]
              simp only
              rw [hm1]
              have e1 : (b ++ c).take (b.length + min d1.left.toNat c.length) = b ++ c.take (min d1.left.toNat c.length) := by
                rw [List.take_append, List.take_of_length_le (by omega)]
                congr 2
                omega
              have e2 : d.left - ((b.length + min d1.left.toNat c.length : Nat) : Int) = d1.left - ((min d1.left.toNat c.length : Nat) : Int) := by rw [l1]; omega
              rw [e1, e2]
              rw [hd1]
            have hB : stepC d1 c = (c.take (min d1.left.toNat c.length), min d1.left.toNat c.length, 0, (stepC d1 c).2.2.2) := by
              unfold stepC
              rw [if_pos w1]
            have hpos : 0 < min d1.left.toNat c.length := by rw [l1]; omega
            rw [run_step d (b ++ c), hA]
            simp only [ne_eq, not_true_eq_false, if_false]
            rw [if_neg (by omega), run_step d1 c, hB]
            simp only [ne_eq, not_true_eq_false, if_false]
            rw [if_neg (by omega), ahead_ahead]
            congr 2
            rw [List.drop_append, List.drop_eq_nil_of_le (by omega), List.nil_append]
            congr 1
            omega
    · have hp : d.w = 1 → d.left.toNat ≤ b.length := by
        intro hw
        exfalso
        apply he
        unfold stepC
        rw [if_pos hw]
      have hs := step_more d b c (.inl he) hp
      have hR : run d b = ([], 0, (stepC d b).2.2.1, { (stepC d b).2.2.2 with fault := (stepC d b).2.2.1 }) := by rw [run_step, if_pos he]
      have hR2 : run d (b ++ c) = ([], 0, (stepC d b).2.2.1, { (stepC d b).2.2.2 with fault := (stepC d b).2.2.1 }) := by rw [run_step, hs, if_pos he]
      rw [hR2, hR]
      simp [he]
theorem new_sound : Sound Dec.new := by intro h; cases h
theorem run_le : ∀ (k : Nat) (d : Dec) (b : List UInt8), b.length ≤ k → (run d b).2.1 ≤ b.length := by
  intro k
  induction k with
  | zero =>
    intro d b hb
    have hle := stepC_le (d := d) (b := b)
    rw [run_step]
    split
    · simp
    · rw [if_pos (by omega)]; simp
  | succ k ih =>
    intro d b hb
    have hle := stepC_le (d := d) (b := b)
    rw [run_step]
    split
    · simp
    · split
      · simp
      · unfold ahead
        split
        · simp
        · have := ih (stepC d b).2.2.2 (b.drop (stepC d b).2.1) (by rw [List.length_drop]; omega)
          rw [List.length_drop] at this
          simp only
          omega
end IH

/- Layer 7 in plain Lean: the run of a decoder, way by way; chunks put together are taken apart. No program in sight; no condition. -/
namespace IH
set_option maxRecDepth 100000

def at3 (t k : Int) : Dec := ⟨3, 0, t, k, 0⟩
def end4 (t k : Int) : Dec := ⟨4, 0, t, k, 0⟩

theorem step3 (t k : Int) (r : List UInt8) : stepC (at3 t k) r = if (lineC r).2.2 ≠ 0 ∨ (lineC r).2.1 = 0 then ([], 0, (lineC r).2.2, at3 t k)
    else ([], (lineC r).2.1, (tailC (at3 t k) (lineC r).1).1, (tailC (at3 t k) (lineC r).1).2) := by
  unfold stepC at3
  simp
section
variable {t k : Int} {r s : List UInt8} {n : Nat}
theorem run4 (t k : Int) (r : List UInt8) : run (end4 t k) r = ([], 0, 0, end4 t k) := by
  have e : stepC (end4 t k) r = ([], 0, 0, end4 t k) := by unfold stepC end4; simp
  rw [run_step, e]; simp
theorem run3_end (h : lineC r = ([], n, 0)) (hn : n ≠ 0) : run (at3 t k) r = ([], n, 0, end4 t k) := by
  have e : stepC (at3 t k) r = ([], n, 0, end4 t k) := by
    rw [step3, h, if_neg (by simp [hn])]
    unfold tailC end4 at3
    simp
  rw [run_step, e]
  simp [hn, run4, ahead]
theorem run3_many (h : lineC r = (s, n, 0)) (hn : n ≠ 0) (hs : s ≠ []) (hp : (parseFs (s ++ [13, 10, 13, 10])).2.2 = 0) (hk : 128 < k + 1) : (run (at3 t k) r).2.2.1 = 13 ∧ (run (at3 t k) r).1 = [] ∧ (run (at3 t k) r).2.1 = 0 := by
  have e : stepC (at3 t k) r = ([], n, 13, at3 t (k + 1)) := by
    rw [step3, h, if_neg (by simp [hn])]
    unfold tailC at3
    simp only
    rw [if_neg hs, if_neg (by simp [hp]), if_pos hk]
  rw [run_step, e]; simp
theorem run3_field (h : lineC r = (s, n, 0)) (hn : n ≠ 0) (hs : s ≠ []) (hp : (parseFs (s ++ [13, 10, 13, 10])).2.2 = 0) (hk : k + 1 ≤ 128) : run (at3 t k) r = ahead [] n (run (at3 t (k + 1)) (r.drop n)) := by
  have e : stepC (at3 t k) r = ([], n, 0, at3 t (k + 1)) := by
    rw [step3, h, if_neg (by simp [hn])]
    unfold tailC at3
    simp only
    rw [if_neg hs, if_neg (by simp [hp]), if_neg (by omega)]
  rw [run_step, e]
  simp [hn]
end

/-! Lines and sizes, as they are written. -/
theorem lineC_of {s : List UInt8} (h : ∀ c ∈ s, c ≠ 10) (hl : s.length ≤ 254) (r : List UInt8) : lineC (s ++ 13 :: 10 :: r) = (s, s.length + 2, 0) := by
  have e1 : s ++ 13 :: 10 :: r = (s ++ [13]) ++ 10 :: r := by simp
  have hf : ((s ++ 13 :: 10 :: r).take 256).findIdx? (· == 10) = some (s.length + 1) := by
    rw [e1, List.take_append, List.take_of_length_le (by simp; omega)]
    obtain ⟨m, hm⟩ : ∃ m, 256 - (s ++ [13]).length = m + 1 := ⟨254 - s.length, by simp; omega⟩
    rw [hm, List.take_succ_cons, List.findIdx?_append]
    have hn : (s ++ [13]).findIdx? (· == 10) = none := by
      rw [List.findIdx?_eq_none_iff]
      intro c hc
      rcases List.mem_append.1 hc with hc | hc
      · simpa using h c hc
      · rw [List.mem_singleton] at hc; subst hc; rfl
    rw [hn]
    simp [List.findIdx?_cons]
  unfold lineC
  rw [hf]
  simp only
  rw [if_neg]
  · rw [show s.length + 1 - 1 = s.length by omega, List.take_left' rfl]
  · rw [show s.length + 1 - 1 = s.length by omega]
    rintro (h | h)
    · omega
    · apply h
      rw [List.getElem?_append_right (Nat.le_refl _)]
      simp
end IH

/- Layer 7 in plain Lean: pieces in chunks come out as they were; bodies, lines and trailers up to their bounds. No program in sight; no condition. -/
namespace IH
set_option maxRecDepth 100000

def encP (p : List UInt8) : List UInt8 := if p = [] then [] else digs 16 64 p.length ++ 13 :: 10 :: (p ++ [13, 10])
def encL (ps : List (List UInt8)) : List UInt8 := ps.flatMap encP ++ [48, 13, 10, 13, 10]
def total (ps : List (List UInt8)) : Nat := (ps.map List.length).sum

theorem hexd_short (k : Nat) : ∀ n : Nat, n < 16 ^ (k + 1) → n < 2 ^ 63 → (digs 16 64 n).length ≤ k + 1 := by
  induction k with
  | zero => intro n h _; rw [digs_small _ _ (by simpa using h)]; simp
  | succ k ih =>
    intro n h hn
    rcases Nat.lt_or_ge n 16 with h10 | h10
    · rw [digs_small _ _ h10]; simp
    · rw [digs_step 16 (by omega) n hn h10, List.length_append]
      have := ih (n / 16) (by rw [Nat.pow_succ] at h; omega) (by omega)
      simp; omega
/-! Trailers. -/
theorem ab_parse : (parseFs ([97, 58, 32, 98] ++ [13, 10, 13, 10])).2.2 = 0 := by
  have := parse_print (fs := [([97], [98])]) (by decide) []
  have e : printL [([97], [98])] ++ [] = [97, 58, 32, 98] ++ [13, 10, 13, 10] := by decide
  rw [e] at this
  rw [this]
def abs6 (n : Nat) (r : List UInt8) : List UInt8 := match n with
  | 0 => r
  | n + 1 => 97 :: 58 :: 32 :: 98 :: 13 :: 10 :: abs6 n r
theorem trailers : ∀ (n : Nat) (t k : Int) (r : List UInt8), 0 ≤ k → (k + n ≤ 128 → (run (at3 t k) (abs6 n (13 :: 10 :: r))).2.2.1 = 0 ∧ (run (at3 t k) (abs6 n (13 :: 10 :: r))).2.2.2.w = 4) ∧ (128 < k + n → k ≤ 128 → (run (at3 t k) (abs6 n (13 :: 10 :: r))).2.2.1 = 13) := by
  intro n
  induction n with
  | zero =>
    intro t k r _
    have h3 := lineC_of (s := []) (by decide) (by decide) r
    simp only [List.nil_append, List.length_nil, Nat.zero_add] at h3
    refine ⟨fun _ => ?_, fun h1 h2 => by omega⟩
    show (run (at3 t k) (13 :: 10 :: r)).2.2.1 = 0 ∧ _
    unfold abs6
    rw [run3_end h3 (by omega)]
    exact ⟨rfl, rfl⟩
  | succ n ih =>
    intro t k r hk
    have h2 := lineC_of (s := [97, 58, 32, 98]) (by decide) (by decide) (abs6 n (13 :: 10 :: r))
    simp only [List.cons_append, List.nil_append, List.length_cons, List.length_nil, Nat.zero_add, Nat.reduceAdd] at h2
    have hu : abs6 (n + 1) (13 :: 10 :: r) = 97 :: 58 :: 32 :: 98 :: 13 :: 10 :: abs6 n (13 :: 10 :: r) := rfl
    rw [hu]
    rcases Int.lt_or_le 127 k with h | h
    · have := run3_many (t := t) h2 (by omega) (by simp) ab_parse (show 128 < k + 1 by omega)
      refine ⟨fun h1 => by omega, fun _ _ => this.1⟩
    · have := run3_field (t := t) h2 (by omega) (by simp) ab_parse (show k + 1 ≤ 128 by omega)
      simp only [List.drop_succ_cons, List.drop_zero] at this
      obtain ⟨i1, i2⟩ := ih t (k + 1) r (by omega)
      rw [this]
      constructor
      · intro h1
        obtain ⟨e1, e2⟩ := i1 (by omega)
        unfold ahead
        rw [if_neg (by simp [e1])]
        exact ⟨rfl, e2⟩
      · intro h1 _
        have e1 := i2 (by omega) (by omega)
        unfold ahead
        rw [if_pos (by simp [e1])]
        exact e1
end IH

/- Layer 7 in plain Lean: a size line as long as may be, and longer. No program in sight; no condition. -/
namespace IH
set_option maxRecDepth 100000

end IH

/- Layer 7 in plain Lean: bounds of what a decoder tells; a chunked body, decoded; a size line's parts. No program in sight; no condition. -/
namespace IH
set_option maxRecDepth 100000
theorem step_out (d : Dec) (b : List UInt8) : (stepC d b).1.length ≤ (stepC d b).2.1 := by
  unfold stepC
  split
  · simp only [List.length_take]; omega
  · split
    · split
      · simp
      · split <;> simp
    · split
      · simp
      · split <;> simp
theorem run_out : ∀ (k : Nat) (d : Dec) (b : List UInt8), b.length ≤ k → (run d b).1.length ≤ (run d b).2.1 := by
  intro k
  induction k with
  | zero =>
    intro d b hb
    have hle := stepC_le (d := d) (b := b)
    have ho := step_out d b
    rw [run_step]
    split
    · simp
    · rw [if_pos (by omega)]; simp only; omega
  | succ k ih =>
    intro d b hb
    have hle := stepC_le (d := d) (b := b)
    have ho := step_out d b
    rw [run_step]
    split
    · simp
    · split
      · simp only; omega
      · rename_i h0
        unfold ahead
        split
        · simp
        · have := ih (stepC d b).2.2.2 (b.drop (stepC d b).2.1) (by rw [List.length_drop]; omega)
          simp only [List.length_append]
          omega
/-- A decoder's numbers within bounds. -/
structure DecIn (d : Dec) : Prop where
  w0 : 0 ≤ d.w
  w1 : d.w ≤ 4
  l0 : 0 ≤ d.left
  l1 : d.left ≤ 1048576
  t0 : 0 ≤ d.total
  t1 : d.total ≤ 1048576
  f0 : 0 ≤ d.fields
  f1 : d.fields ≤ 128
theorem new_in : DecIn Dec.new := by constructor <;> simp [Dec.new]
theorem begin_in {d : Dec} (h : DecIn d) (s : List UInt8) : DecIn (beginC d s).2 := by
  obtain ⟨a1, a2, a3, a4, a5, a6, a7, a8⟩ := h
  unfold beginC
  split
  · exact ⟨a1, a2, a3, a4, a5, a6, a7, a8⟩
  · split
    · exact ⟨by simp, by simp, a3, a4, a5, a6, a7, a8⟩
    · split
      · exact ⟨a1, a2, a3, a4, a5, a6, a7, a8⟩
      · exact ⟨by simp, by simp, by simp only; omega, by simp only; omega, by simp only; omega, by simp only; omega, a7, a8⟩
theorem tail_in {d : Dec} (h : DecIn d) (s : List UInt8) (h0 : (tailC d s).1 = 0) : DecIn (tailC d s).2 := by
  obtain ⟨a1, a2, a3, a4, a5, a6, a7, a8⟩ := h
  unfold tailC at h0 ⊢
  split
  · exact ⟨by simp, by simp, a3, a4, a5, a6, a7, a8⟩
  · rename_i h1
    rw [if_neg h1] at h0
    split
    · exact ⟨a1, a2, a3, a4, a5, a6, a7, a8⟩
    · rename_i h2
      rw [if_neg h2] at h0
      simp only at h0
      split at h0
      · simp at h0
      · exact ⟨a1, a2, a3, a4, a5, a6, by simp only; omega, by simp only; omega⟩
theorem step_in {d : Dec} (h : DecIn d) (b : List UInt8) (h0 : (stepC d b).2.2.1 = 0) : DecIn (stepC d b).2.2.2 := by
  obtain ⟨a1, a2, a3, a4, a5, a6, a7, a8⟩ := h
  unfold stepC at h0 ⊢
  split
  · refine ⟨?_, ?_, by simp only; omega, by simp only; omega, a5, a6, a7, a8⟩
    · simp only; split <;> omega
    · simp only; split <;> omega
  · rename_i h1
    rw [if_neg h1] at h0
    split
    · rename_i h2
      rw [if_pos h2] at h0
      split
      · exact ⟨a1, a2, a3, a4, a5, a6, a7, a8⟩
      · rename_i h3
        rw [if_neg h3] at h0
        split
        · exact ⟨a1, a2, a3, a4, a5, a6, a7, a8⟩
        · exact ⟨by simp, by simp, a3, a4, a5, a6, a7, a8⟩
    · rename_i h2
      rw [if_neg h2] at h0
      split
      · exact ⟨a1, a2, a3, a4, a5, a6, a7, a8⟩
      · rename_i h3
        rw [if_neg h3] at h0
        split
        · exact ⟨a1, a2, a3, a4, a5, a6, a7, a8⟩
        · rename_i h4
          rw [if_neg h4] at h0
          simp only at h0 ⊢
          by_cases hw : d.w = 0
          · rw [if_pos hw]
            exact begin_in ⟨a1, a2, a3, a4, a5, a6, a7, a8⟩ _
          · rw [if_neg hw] at h0 ⊢
            exact tail_in ⟨a1, a2, a3, a4, a5, a6, a7, a8⟩ _ h0
theorem run_in : ∀ (k : Nat) (d : Dec) (b : List UInt8), b.length ≤ k → DecIn d → (run d b).2.2.1 = 0 → DecIn (run d b).2.2.2 := by
  intro k
  induction k with
  | zero =>
    intro d b hb hd h
    have hle := stepC_le (d := d) (b := b)
    rw [run_step] at h ⊢
    split
    · rename_i h1; rw [if_pos h1] at h; exact absurd h h1
    · rename_i h1
      rw [if_pos (by omega)]
      exact step_in hd b (by simpa using h1)
  | succ k ih =>
    intro d b hb hd h
    have hle := stepC_le (d := d) (b := b)
    rw [run_step] at h ⊢
    split
    · rename_i h1; rw [if_pos h1] at h; exact absurd h h1
    · rename_i h1
      rw [if_neg h1] at h
      split
      · exact step_in hd b (by simpa using h1)
      · rename_i h0
        rw [if_neg h0] at h
        unfold ahead at h ⊢
        split
        · rename_i h2; rw [if_pos h2] at h; exact absurd h h2
        · rename_i h2
          exact ih _ _ (by rw [List.length_drop]; omega) (step_in hd b (by simpa using h1)) (by simpa using h2)
theorem step_fault (d : Dec) (b : List UInt8) : (stepC d b).2.2.2.fault = d.fault := by
  unfold stepC beginC tailC
  simp only
  split
  · rfl
  · split
    · split
      · rfl
      · split <;> rfl
    · split
      · rfl
      · split
        · rfl
        · split
          · split
            · rfl
            · split
              · rfl
              · split <;> rfl
          · split
            · rfl
            · split <;> rfl
theorem run_fault : ∀ (k : Nat) (d : Dec) (b : List UInt8), b.length ≤ k → d.fault = 0 → (run d b).2.2.2.fault = (run d b).2.2.1 := by
  intro k
  induction k with
  | zero =>
    intro d b hb hd
    have hle := stepC_le (d := d) (b := b)
    rw [run_step]
    split
    · rfl
    · rw [if_pos (by omega)]; exact (step_fault d b).trans hd
  | succ k ih =>
    intro d b hb hd
    have hle := stepC_le (d := d) (b := b)
    rw [run_step]
    split
    · rfl
    · split
      · exact (step_fault d b).trans hd
      · rename_i h0
        have := ih (stepC d b).2.2.2 (b.drop (stepC d b).2.1) (by rw [List.length_drop]; omega) ((step_fault d b).trans hd)
        unfold ahead
        split
        · exact this
        · rename_i h2
          simp only at h2 ⊢
          rw [this]; simpa using h2
end IH

/- Layer 7 in plain Lean: what the bounds' bodies come to, decoded. No program in sight; no condition. -/
namespace IH
set_option maxRecDepth 100000
end IH

