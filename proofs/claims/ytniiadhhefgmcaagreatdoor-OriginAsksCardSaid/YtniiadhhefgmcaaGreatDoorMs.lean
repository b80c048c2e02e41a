/- Ms: several texts, one behind the other. -/
import Derived.Test.YtniiadhhefgmcaaGreatDoorSta1
import Derived.Test.YtniiadhhefgmcaaGreatDoorCk
import Derived.Test.YtniiadhhefgmcaaGreatDoorPm
/- Layer 8 in plain Lean: how a message is framed; a reader, fed piece by piece, is what is fed at once. Condition: no more than 65535 octets. -/
namespace IH
set_option maxRecDepth 100000

/-- "transfer-encoding", "content-length", "chunked", "HEAD" -/
def teN : List UInt8 := [116, 114, 97, 110, 115, 102, 101, 114, 45, 101, 110, 99, 111, 100, 105, 110, 103]
def clN : List UInt8 := [99, 111, 110, 116, 101, 110, 116, 45, 108, 101, 110, 103, 116, 104]
def chunkedN : List UInt8 := [99, 104, 117, 110, 107, 101, 100]
def headN : List UInt8 := [72, 69, 65, 68]
def bareM (status : Int) (method : List UInt8) : Bool := method == headN || decide (status < 200) || decide (status = 204) || decide (status = 304)
/-- Its kind, its length, the error. -/
def framingL (s : Sta) (fs : List Fld) (method : List UInt8) : Int × Int × Int :=
  if s.status ≠ 0 ∧ bareM s.status method = true then (0, 0, 0)
  else if getL fs teN ≠ [] then
    (if s.minor = 0 ∨ getL fs clN ≠ [] ∨ (splitL (getL fs teN)).length ≠ 1 ∨ (splitL (getL fs teN)).map lower ≠ [chunkedN] then (0, 0, 10) else (2, 0, 0))
  else if getL fs clN ≠ [] then
    (match splitL (getL fs clN) with
    | [] => (0, 0, 10)
    | x :: l => if (l.all fun y => y == x) = false then (0, 0, 10) else if (numR 10 1048576 x).2 ≠ 0 then (0, 0, (numR 10 1048576 x).2) else (1, (numR 10 1048576 x).1, 0))
  else if s.status = 0 then (0, 0, 0) else (0, 0, 10)
theorem numR_err (base : Nat) (M : Int) (l : List UInt8) : (numR base M l).2 = 0 ∨ (numR base M l).2 = 10 ∨ (numR base M l).2 = 12 := by
  unfold numR
  split
  · simp
  · split
    · simp
    · split
      · simp
      · cases accN base M 0 l <;> simp [accR]
theorem framing_err (s : Sta) (fs : List Fld) (m : List UInt8) : (framingL s fs m).2.2 ≠ 11 := by
  unfold framingL
  split
  · decide
  · split
    · split <;> simp
    · split
      · split
        · simp
        · rename_i x l _
          rcases numR_err 10 1048576 x with h | h | h
          · split
            · simp
            · split <;> simp [h]
          · split
            · simp
            · split <;> simp [h]
          · split
            · simp
            · split <;> simp [h]
      · split <;> simp
theorem framing_left (s : Sta) (fs : List Fld) (m : List UInt8) : 0 ≤ (framingL s fs m).2.1 := by
  unfold framingL
  split
  · simp
  · split
    · split <;> simp
    · split
      · split
        · simp
        · rename_i x l _
          split
          · simp
          · split
            · simp
            · unfold numR
              split
              · simp
              · split
                · simp
                · split
                  · simp
                  · cases h : accN 10 1048576 0 x with
                    | none => simp [accR]
                    | some v => exact (accN_bound 10 (by omega) 1048576 0 v x h (by omega) (by omega)).1
      · split <;> simp

/-! What was read stays read, with more behind. -/
theorem lineS_more {most : Nat} {b : List UInt8} (c : List UInt8) (h : (lineS most b).2.2 ≠ 11) : lineS most (b ++ c) = lineS most b := by
  unfold lineS at h ⊢
  have e : (b ++ c).take (most + 1) = b.take (most + 1) ++ c.take (most + 1 - b.length) := List.take_append
  cases hf : (b.take (most + 1)).findIdx? (· == 10) with
  | none =>
    rw [hf] at h
    simp only at h
    split at h
    · simp at h
    · rename_i hl
      have e2 : (b ++ c).take (most + 1) = b.take (most + 1) := by rw [e, show most + 1 - b.length = 0 by omega]; simp
      rw [e2, hf]
      simp only
      rw [if_neg hl, if_neg (by rw [List.length_append]; omega)]
  | some n =>
    have hn := findIdx_lt hf
    rw [List.length_take] at hn
    rw [e, findIdx_append hf]
    simp only
    rw [List.getElem?_append_left (by omega), List.take_append_of_le_length (by omega)]
theorem lineS_le {most : Nat} {b : List UInt8} : (lineS most b).2.1 ≤ b.length := by
  unfold lineS
  split
  · split <;> simp
  · rename_i k hk
    have := findIdx_lt hk
    rw [List.length_take] at this
    split
    · simp
    · simp only; omega
def lineM (asks : Bool) (b : List UInt8) : Sta × Int × Int := if asks = true then requestL b else responseL b
theorem lineM_more {asks : Bool} {b : List UInt8} (c : List UInt8) (h : (lineM asks b).2.2 ≠ 11) : lineM asks (b ++ c) = lineM asks b := by
  unfold lineM at h ⊢
  split
  · rename_i ha
    rw [if_pos ha] at h
    have : (lineS 8200 b).2.2 ≠ 11 := by
      intro e; apply h
      unfold requestL
      rw [if_pos (by rw [e]; decide), e]
    unfold requestL
    rw [lineS_more c this]
  · rename_i ha
    rw [if_neg ha] at h
    have : (lineS 300 b).2.2 ≠ 11 := by
      intro e; apply h
      unfold responseL
      rw [if_pos (by rw [e]; decide), e]
    unfold responseL
    rw [lineS_more c this]
theorem lineM_le (asks : Bool) (b : List UInt8) : (lineM asks b).2.1.toNat ≤ b.length := by
  unfold lineM
  split
  · have := lineS_le (most := 8200) (b := b)
    unfold requestL
    split
    · simp
    · split
      · simp
      · simpa using this
  · have := lineS_le (most := 300) (b := b)
    unfold responseL
    split
    · simp
    · split
      · simp
      · simpa using this
theorem lineM_pos {asks : Bool} {b : List UInt8} (h : (lineM asks b).2.2 = 0) : 0 < (lineM asks b).2.1.toNat := by
  have key : ∀ most, (lineS most b).2.2 = 0 → 0 < (lineS most b).2.1 := by
    intro most h
    unfold lineS at h ⊢
    split at h
    · split at h <;> simp at h
    · split at h
      · simp at h
      · rename_i hk; rw [if_neg hk]; simp
  unfold lineM at h ⊢
  split at h
  · rename_i ha
    rw [if_pos ha]
    unfold requestL at h ⊢
    split at h
    · rename_i h1; simp only at h; exact absurd h h1
    · rename_i h1
      split at h
      · rename_i h2; simp only at h; exact absurd h h2
      · rename_i h2
        rw [if_neg h1, if_neg h2]
        have := key 8200 (by omega)
        simpa using this
  · rename_i ha
    rw [if_neg ha]
    unfold responseL at h ⊢
    split at h
    · rename_i h1; simp only at h; exact absurd h h1
    · rename_i h1
      split at h
      · rename_i h2; simp only at h; exact absurd h h2
      · rename_i h2
        rw [if_neg h1, if_neg h2]
        have := key 300 (by omega)
        simpa using this
theorem crAt_more {l : List UInt8} {n : Nat} (h : crAt l = some n) (c : List UInt8) : crAt (l ++ c) = some n := by
  induction l generalizing n with
  | nil => cases h
  | cons d l ih =>
    rw [List.cons_append]
    unfold crAt at h ⊢
    split at h
    · rename_i hc
      have : (l ++ c).head? = some 10 := by
        cases l with
        | nil => simp at hc
        | cons _ _ => simpa using hc.2
      rw [if_pos ⟨hc.1, this⟩]
      exact h
    · rename_i hc
      obtain ⟨m, hm, rfl⟩ := Option.map_eq_some_iff.1 h
      have h2 := crAt_le hm
      have : (l ++ c).head? = l.head? := by
        cases l with
        | nil => simp at h2
        | cons _ _ => rfl
      rw [this, if_neg hc, ih hm]
      rfl
theorem parseF_ext : ∀ (k : Nat) (N N' a : Nat) (rest out c) (k' : Nat), rest.length < k → (rest ++ c).length < k' → N ≤ 65535 → N' ≤ 65535 → a + rest.length = N → a + (rest ++ c).length = N' →
    (parseF k N a rest out).2.2 ≠ 11 → parseF k' N' a (rest ++ c) out = parseF k N a rest out := by
  intro k
  induction k with
  | zero => intro N N' a rest out c k' h; omega
  | succ k ih =>
    intro N N' a rest out c k' hk hk' hN hN' ha ha' h
    cases k' with
    | zero => omega
    | succ k' =>
      unfold parseF at h ⊢
      have hl : lineF N a rest = (none, 11) ∨ lineF N' a (rest ++ c) = lineF N a rest := by
        unfold lineF
        cases hc : crAt rest with
        | none => left; simp only; rw [if_neg (by omega)]
        | some n =>
          right
          have := crAt_le hc
          rw [crAt_more hc c]
          simp only
          split
          · rfl
          · rw [List.take_append_of_le_length (by omega)]
      rcases hl with hl | hl
      · rw [hl] at h; simp at h
      · rw [hl]
        cases hs : lineF N a rest with
        | mk s e =>
          cases s with
          | none => rfl
          | some s =>
            have hle := lineF_le hs
            rw [hs] at h
            simp only at h ⊢
            split
            · rfl
            · rename_i hne
              rw [if_neg hne] at h
              cases hf : headF s with
              | none => rfl
              | some f =>
                rw [hf] at h
                simp only at h ⊢
                split
                · rfl
                · rename_i ho
                  rw [if_neg ho] at h
                  have hd : (rest ++ c).drop (s.length + 2) = rest.drop (s.length + 2) ++ c := by rw [List.drop_append, show s.length + 2 - rest.length = 0 by omega]; simp
                  rw [hd]
                  refine ih N N' _ _ _ c k' ?_ ?_ hN hN' ?_ ?_ h
                  · rw [List.length_drop]; omega
                  · rw [List.length_append, List.length_drop]; rw [List.length_append] at hk'; omega
                  · rw [List.length_drop]; omega
                  · rw [List.length_append, List.length_drop]; rw [List.length_append] at ha'; omega
theorem parseL_more {b : List UInt8} (c : List UInt8) (hl : (b ++ c).length ≤ 65535) (h : (parseFs b).2.2 ≠ 11) : parseFs (b ++ c) = parseFs b := by
  unfold parseFs at h ⊢
  refine parseF_ext _ _ _ 0 b [] c _ (by omega) (by omega) ?_ hl (by omega) (by omega) h
  rw [List.length_append] at hl; omega
theorem parseF_bd : ∀ (k N a : Nat) (rest : List UInt8) (out : List Fld), (parseF k N a rest out).2.2 = 0 → a < (parseF k N a rest out).2.1 ∧ (parseF k N a rest out).2.1 ≤ a + rest.length := by
  intro k
  induction k with
  | zero => intro N a rest out h; simp [parseF] at h
  | succ k ih =>
    intro N a rest out h
    unfold parseF at h ⊢
    cases hs : lineF N a rest with
    | mk s e =>
      rw [hs] at h
      cases s with
      | none =>
        exfalso
        unfold lineF at hs
        simp only at h
        subst h
        split at hs
        · simp only [Prod.mk.injEq, true_and] at hs
          split at hs <;> omega
        · split at hs <;> simp at hs
      | some s =>
        have hle := lineF_le hs
        simp only at h ⊢
        split
        · simp only; omega
        · rename_i hne
          rw [if_neg hne] at h
          cases hf : headF s with
          | none => rw [hf] at h; simp at h
          | some f =>
            rw [hf] at h
            simp only at h ⊢
            split
            · rename_i ho; rw [if_pos ho] at h; simp at h
            · rename_i ho
              rw [if_neg ho] at h
              have := ih _ _ _ _ h
              rw [List.length_drop] at this
              omega
theorem parseL_bd {b : List UInt8} (h : (parseFs b).2.2 = 0) : 0 < (parseFs b).2.1.toNat ∧ (parseFs b).2.1.toNat ≤ b.length := by
  have := parseF_bd (b.length + 1) b.length 0 b [] h
  unfold parseFs
  omega

/-! A reader. -/
structure Rd where
  asks : Bool
  method : List UInt8
  w : Int
  start : Sta
  fields : List Fld
  kind : Int
  left : Int
  dec : Dec
  fault : Int
def Rd.new (asks : Bool) (method : List UInt8) : Rd := ⟨asks, method, 0, Sta.zero, [], 0, 0, Dec.new, 0⟩
def stepM (r : Rd) (b : List UInt8) : List UInt8 × Nat × Int × Rd :=
  if r.w = 0 then
    if (lineM r.asks b).2.2 = 11 then ([], 0, 0, r) else if (lineM r.asks b).2.2 ≠ 0 then ([], 0, (lineM r.asks b).2.2, r)
    else ([], (lineM r.asks b).2.1.toNat, 0, { r with start := (lineM r.asks b).1, w := 1 })
  else if r.w = 1 then
    if (parseFs b).2.2 = 11 then ([], 0, 0, r) else if (parseFs b).2.2 ≠ 0 then ([], 0, (parseFs b).2.2, r)
    else
      let f := framingL r.start (parseFs b).1 r.method
      if f.2.2 ≠ 0 then ([], 0, f.2.2, { r with fields := (parseFs b).1, kind := 0, left := 0 })
      else ([], (parseFs b).2.1.toNat, 0, { r with fields := (parseFs b).1, kind := f.1, left := f.2.1, w := if f.1 ≠ 2 ∧ f.2.1 = 0 then 3 else 2 })
  else if r.w = 2 then
    if r.kind = 2 then
      let t := run r.dec b
      if t.2.2.1 ≠ 0 then ([], 0, t.2.2.1, { r with dec := t.2.2.2 }) else (t.1, t.2.1, 0, { r with dec := t.2.2.2, w := if t.2.2.2.w = 4 then 3 else 2 })
    else
      let n := min r.left.toNat b.length
      (b.take n, n, 0, { r with left := r.left - n, w := if r.left - n = 0 then 3 else 2 })
  else ([], 0, 0, r)
def runMF : Nat → Rd → List UInt8 → List UInt8 × Nat × Int × Rd
  | 0, d, _ => ([], 0, 0, d)
  | f + 1, d, b =>
    let s := stepM d b
    if s.2.2.1 ≠ 0 then ([], 0, s.2.2.1, { s.2.2.2 with fault := s.2.2.1 })
    else if s.2.1 = 0 then (s.1, 0, 0, s.2.2.2)
    else
      let r := runMF f s.2.2.2 (b.drop s.2.1)
      if r.2.2.1 ≠ 0 then ([], 0, r.2.2.1, r.2.2.2) else (s.1 ++ r.1, s.2.1 + r.2.1, 0, r.2.2.2)
def runM (d : Rd) (b : List UInt8) : List UInt8 × Nat × Int × Rd := runMF (b.length + 1) d b
def aheadM (out : List UInt8) (n : Nat) (r : List UInt8 × Nat × Int × Rd) : List UInt8 × Nat × Int × Rd :=
  if r.2.2.1 ≠ 0 then ([], 0, r.2.2.1, r.2.2.2) else (out ++ r.1, n + r.2.1, 0, r.2.2.2)
theorem stepM_le {r : Rd} {b : List UInt8} : (stepM r b).2.1 ≤ b.length := by
  unfold stepM
  split
  · split
    · simp
    · split
      · simp
      · exact lineM_le r.asks b
  · split
    · split
      · simp
      · split
        · simp
        · rename_i h0
          simp only
          split
          · simp
          · exact (parseL_bd (by omega)).2
    · split
      · split
        · simp only
          split
          · simp
          · exact run_le b.length _ _ (Nat.le_refl _)
        · simp only; omega
      · simp
theorem runMF_more (f g : Nat) (d : Rd) (b : List UInt8) (hf : b.length < f) (hg : b.length < g) : runMF f d b = runMF g d b := by
  induction f generalizing g d b with
  | zero => omega
  | succ f ih =>
    cases g with
    | zero => omega
    | succ g =>
      have hle := stepM_le (r := d) (b := b)
      unfold runMF
      simp only
      split
      · rfl
      · split
        · rfl
        · rename_i h0
          rw [ih g _ _ (by rw [List.length_drop]; omega) (by rw [List.length_drop]; omega)]
theorem runM_step (d : Rd) (b : List UInt8) : runM d b =
    if (stepM d b).2.2.1 ≠ 0 then ([], 0, (stepM d b).2.2.1, { (stepM d b).2.2.2 with fault := (stepM d b).2.2.1 })
    else if (stepM d b).2.1 = 0 then ((stepM d b).1, 0, 0, (stepM d b).2.2.2)
    else aheadM (stepM d b).1 (stepM d b).2.1 (runM (stepM d b).2.2.2 (b.drop (stepM d b).2.1)) := by
  have hle := stepM_le (r := d) (b := b)
  conv => lhs; unfold runM runMF
  simp only
  split
  · rfl
  · split
    · rfl
    · rename_i h0
      unfold aheadM runM
      rw [runMF_more b.length ((b.drop (stepM d b).2.1).length + 1) _ _ (by rw [List.length_drop]; omega) (by omega)]
theorem aheadM_aheadM (o o2 : List UInt8) (n n2 : Nat) (r : List UInt8 × Nat × Int × Rd) : aheadM o n (aheadM o2 n2 r) = aheadM (o ++ o2) (n + n2) r := by
  unfold aheadM
  by_cases h : r.2.2.1 = 0
  · simp [h, Nat.add_assoc]
  · simp [h]
theorem runM_err (d : Rd) (b : List UInt8) (h : (runM d b).2.2.1 ≠ 0) : (runM d b).1 = [] ∧ (runM d b).2.1 = 0 ∧ (runM d b).2.2.2.fault = (runM d b).2.2.1 := by
  have key : ∀ (n : Nat) (d : Rd) (b : List UInt8), b.length ≤ n → (runM d b).2.2.1 ≠ 0 → (runM d b).1 = [] ∧ (runM d b).2.1 = 0 ∧ (runM d b).2.2.2.fault = (runM d b).2.2.1 := by
    intro n
    induction n with
    | zero =>
      intro d b hb h
      rw [runM_step] at h ⊢
      have hle := stepM_le (r := d) (b := b)
      split
      · exact ⟨rfl, rfl, rfl⟩
      · rename_i h1
        rw [if_neg h1, if_pos (by omega)] at h
        simp at h
    | succ n ih =>
      intro d b hb h
      rw [runM_step] at h ⊢
      have hle := stepM_le (r := d) (b := b)
      split
      · exact ⟨rfl, rfl, rfl⟩
      · rename_i h1
        rw [if_neg h1] at h
        split
        · rename_i h2
          rw [if_pos h2] at h; simp at h
        · rename_i h2
          rw [if_neg h2] at h
          unfold aheadM at h ⊢
          split
          · rename_i h3
            exact ⟨rfl, rfl, (ih _ _ (by rw [List.length_drop]; omega) h3).2.2⟩
          · rename_i h3
            rw [if_neg h3] at h; simp at h
  exact key b.length d b (Nat.le_refl _) h
theorem aheadM_nil (r : List UInt8 × Nat × Int × Rd) (h : r.2.2.1 ≠ 0 → r.1 = [] ∧ r.2.1 = 0) : aheadM [] 0 r = r := by
  unfold aheadM
  by_cases h0 : r.2.2.1 = 0
  · rw [if_neg (by simp [h0]), List.nil_append, Nat.zero_add, ← h0]
  · rw [if_pos h0, ← (h h0).1, ← (h h0).2]
/-- A reader as it stands between steps. -/
structure SoundM (r : Rd) : Prop where
  dec : Sound r.dec
  body : r.w = 2 → r.kind = 2 → r.dec.w ≠ 4
  left : r.w = 2 → r.kind ≠ 2 → 0 < r.left
theorem run_sound : ∀ (n : Nat) (d : Dec) (b : List UInt8), b.length ≤ n → Sound d → (run d b).2.2.1 = 0 → Sound (run d b).2.2.2 ∧ ((run d b).2.1 = 0 → (run d b).1 = [] ∧ (run d b).2.2.2 = d) := by
  intro n
  induction n with
  | zero =>
    intro d b hb hd h
    have hle := stepC_le (d := d) (b := b)
    have h0 : (stepC d b).2.1 = 0 := by omega
    by_cases he : (stepC d b).2.2.1 = 0
    · rw [run_idle d b he h0 (step_none d b hd he h0)]
      exact ⟨hd, fun _ => ⟨rfl, rfl⟩⟩
    · rw [run_step, if_pos he] at h; simp only at h; exact absurd h he
  | succ n ih =>
    intro d b hb hd h
    have hle := stepC_le (d := d) (b := b)
    by_cases he : (stepC d b).2.2.1 = 0
    · by_cases h0 : (stepC d b).2.1 = 0
      · rw [run_idle d b he h0 (step_none d b hd he h0)]
        exact ⟨hd, fun _ => ⟨rfl, rfl⟩⟩
      · have hr := run_step d b
        rw [if_neg (by simp [he]), if_neg h0] at hr
        rw [hr] at h ⊢
        unfold ahead at h ⊢
        split at h
        · rename_i h3; simp only at h; exact absurd h h3
        · rename_i h3
          rw [if_neg h3]
          have hs := ih (stepC d b).2.2.2 (b.drop (stepC d b).2.1) (by rw [List.length_drop]; omega) (step_sound d b hd) (by
            rcases Classical.em ((run (stepC d b).2.2.2 (b.drop (stepC d b).2.1)).2.2.1 = 0) with h | h
            · exact h
            · exact absurd h h3)
          exact ⟨hs.1, fun hz => by simp only at hz; omega⟩
    · rw [run_step, if_pos he] at h; simp only at h; exact absurd h he
theorem run4_any (d : Dec) (b : List UInt8) (h : d.w = 4) : run d b = ([], 0, 0, d) := by
  have e : stepC d b = ([], 0, 0, d) := by
    unfold stepC
    rw [if_neg (by omega), if_neg (by omega), if_pos h]
  rw [run_step, e]; simp
theorem stepM_none (r : Rd) (b : List UInt8) (hr : SoundM r) (h : (stepM r b).2.2.1 = 0) (h0 : (stepM r b).2.1 = 0) : (stepM r b).1 = [] ∧ (stepM r b).2.2.2 = r := by
  unfold stepM at h h0 ⊢
  split at h0
  · rename_i hw
    rw [if_pos hw] at h ⊢
    split at h0
    · rename_i h1; rw [if_pos h1]; exact ⟨rfl, rfl⟩
    · rename_i h1
      rw [if_neg h1] at h ⊢
      split at h0
      · rename_i h2; rw [if_pos h2]; exact ⟨rfl, rfl⟩
      · rename_i h2
        have := lineM_pos (asks := r.asks) (b := b) (by omega)
        simp only at h0; omega
  · rename_i hw
    rw [if_neg hw] at h ⊢
    split at h0
    · rename_i hw1
      rw [if_pos hw1] at h ⊢
      split at h0
      · rename_i h1; rw [if_pos h1]; exact ⟨rfl, rfl⟩
      · rename_i h1
        rw [if_neg h1] at h ⊢
        split at h0
        · rename_i h2; rw [if_pos h2]; exact ⟨rfl, rfl⟩
        · rename_i h2
          rw [if_neg h2] at h ⊢
          simp only at h h0 ⊢
          split at h0
          · rename_i h3
            rw [if_pos h3] at h; simp only at h; exact absurd h h3
          · have := (parseL_bd (b := b) (by omega)).1
            simp only at h0; omega
    · rename_i hw1
      rw [if_neg hw1] at h ⊢
      split at h0
      · rename_i hw2
        rw [if_pos hw2] at h ⊢
        split at h0
        · rename_i hk
          rw [if_pos hk] at h ⊢
          simp only at h h0 ⊢
          split at h0
          · rename_i h3
            rw [if_pos h3] at h; simp only at h; exact absurd h h3
          · rename_i h3
            rw [if_neg h3]
            have hs := (run_sound b.length r.dec b (Nat.le_refl _) hr.dec (by omega)).2 h0
            simp only
            refine ⟨hs.1, ?_⟩
            rw [hs.2, if_neg (hr.body hw2 hk)]
            obtain ⟨asks, method, w, start, fields, kind, left, dec, fault⟩ := r
            simp only at hw2
            rw [hw2]
        · rename_i hk
          rw [if_neg hk]
          have hl := hr.left hw2 hk
          simp only at h0 ⊢
          rw [h0]
          refine ⟨by simp, ?_⟩
          rw [if_neg (by simp; omega)]
          obtain ⟨asks, method, w, start, fields, kind, left, dec, fault⟩ := r
          simp only at hw2
          simp [hw2]
      · rename_i hw2
        rw [if_neg hw2]; exact ⟨rfl, rfl⟩
theorem stepM_sound (r : Rd) (b : List UInt8) (hr : SoundM r) (hd : r.w ≤ 1 → r.dec = Dec.new) (h : (stepM r b).2.2.1 = 0) : SoundM (stepM r b).2.2.2 ∧ ((stepM r b).2.2.2.w ≤ 1 → (stepM r b).2.2.2.dec = Dec.new) := by
  unfold stepM at h ⊢
  split at h
  · rename_i hw
    rw [if_pos hw]
    split
    · exact ⟨hr, hd⟩
    · split
      · exact ⟨hr, hd⟩
      · exact ⟨⟨hr.dec, fun h => by simp at h, fun h => by simp at h⟩, fun _ => hd (by omega)⟩
  · rename_i hw
    rw [if_neg hw]
    split at h
    · rename_i hw1
      rw [if_pos hw1]
      split
      · exact ⟨hr, hd⟩
      · split
        · exact ⟨hr, hd⟩
        · simp only
          split
          · exact ⟨⟨hr.dec, fun h => by simp only at h; omega, fun h => by simp only at h; omega⟩, fun _ => hd (by omega)⟩
          · have hdn := hd (by omega)
            have hfl := framing_left r.start (parseFs b).1 r.method
            refine ⟨⟨hr.dec, fun _ _ => by simp only; rw [hdn]; decide, ?_⟩, fun _ => hdn⟩
            simp only
            intro h2 hk
            split at h2
            · omega
            · rename_i hc
              rcases Int.lt_or_le 0 (framingL r.start (parseFs b).1 r.method).2.1 with hp | hp
              · exact hp
              · exact absurd ⟨hk, by omega⟩ hc
    · rename_i hw1
      rw [if_neg hw1]
      split at h
      · rename_i hw2
        rw [if_pos hw2]
        split at h
        · rename_i hk
          rw [if_pos hk]
          simp only at h ⊢
          split at h
          · rename_i h3; simp only at h; exact absurd h h3
          · rename_i h3
            rw [if_neg h3]
            have hs := (run_sound b.length r.dec b (Nat.le_refl _) hr.dec (by omega)).1
            refine ⟨⟨hs, ?_, fun _ hk2 => absurd hk hk2⟩, fun hle => by simp only at hle; split at hle <;> omega⟩
            simp only
            intro h2 _ h4
            rw [if_pos h4] at h2; simp at h2
        · rename_i hk
          rw [if_neg hk]
          have hl := hr.left hw2 hk
          refine ⟨⟨hr.dec, fun _ hk2 => absurd hk2 hk, ?_⟩, fun hle => by simp only at hle; split at hle <;> omega⟩
          simp only
          intro h2 _
          split at h2
          · simp at h2
          · omega
      · rename_i hw2
        rw [if_neg hw2]; exact ⟨hr, hd⟩
end IH

/- Layer 8 in plain Lean: a reader, fed piece by piece, is what is fed at once; what all octets so far say. Condition: no more than 65535 octets. -/
namespace IH
set_option maxRecDepth 100000

theorem drop_append_le {α : Type} {b c : List α} {n : Nat} (h : n ≤ b.length) : (b ++ c).drop n = b.drop n ++ c := by
  rw [List.drop_append, show n - b.length = 0 by omega]; simp
theorem runM_idle (r : Rd) (b : List UInt8) (h : (stepM r b).2.2.1 = 0) (h0 : (stepM r b).2.1 = 0) (hx : (stepM r b).1 = [] ∧ (stepM r b).2.2.2 = r) : runM r b = ([], 0, 0, r) := by
  rw [runM_step, if_neg (by simp [h]), if_pos h0, hx.1, hx.2]
theorem runM_end (r : Rd) (b : List UInt8) (h0 : r.w ≠ 0) (h1 : r.w ≠ 1) (h2 : r.w ≠ 2) : runM r b = ([], 0, 0, r) := by
  have e : stepM r b = ([], 0, 0, r) := by unfold stepM; rw [if_neg h0, if_neg h1, if_neg h2]
  exact runM_idle r b (by rw [e]) (by rw [e]) (by rw [e]; exact ⟨rfl, rfl⟩)
/-- Within a body in chunks. -/
theorem stepM_chunk {r : Rd} (hw : r.w = 2) (hk : r.kind = 2) (b : List UInt8) : stepM r b =
    if (run r.dec b).2.2.1 ≠ 0 then ([], 0, (run r.dec b).2.2.1, { r with dec := (run r.dec b).2.2.2 })
    else ((run r.dec b).1, (run r.dec b).2.1, 0, { r with dec := (run r.dec b).2.2.2, w := if (run r.dec b).2.2.2.w = 4 then 3 else 2 }) := by
  unfold stepM
  rw [if_neg (by omega), if_neg (by omega), if_pos hw, if_pos hk]
/-- Behind a run nothing more is taken. -/
theorem run_rest {d d1 : Dec} {b x : List UInt8} {n : Nat} (hd : Sound d) (h : run d b = (x, n, 0, d1)) : run d1 (b.drop n) = ([], 0, 0, d1) := by
  have hm := run_more b.length d b [] (Nat.le_refl _) hd
  rw [List.append_nil, h] at hm
  simp only [ne_eq, not_true_eq_false, if_false, List.append_nil] at hm
  obtain ⟨o, m, e, d2, hT⟩ : ∃ o m e d2, run d1 (b.drop n) = (o, m, e, d2) := ⟨_, _, _, _, rfl⟩
  rw [hT] at hm ⊢
  unfold ahead at hm
  simp only at hm
  split at hm
  · rename_i he
    simp only [Prod.mk.injEq] at hm
    obtain ⟨_, _, h3, _⟩ := hm
    exact absurd h3.symm he
  · rename_i he
    simp only [Prod.mk.injEq] at hm
    obtain ⟨h1, h2, _, h4⟩ := hm
    have e0 : e = 0 := by
      rcases Classical.em (e = 0) with h | h
      · exact h
      · exact absurd h he
    have o0 : o = [] := by
      have := congrArg List.length h1
      rw [List.length_append] at this
      exact List.eq_nil_of_length_eq_zero (by omega)
    rw [e0, o0, ← h4, show m = 0 by omega]
theorem chunk_more {r r1 : Rd} {d1 : Dec} {b c x : List UInt8} {n : Nat} (hr : SoundM r) (hw : r.w = 2) (hk : r.kind = 2) (hn : 0 < n) (hnb : n ≤ b.length) (h : run r.dec b = (x, n, 0, d1))
    (h1 : r1 = { r with dec := d1, w := if d1.w = 4 then 3 else 2 }) : runM r (b ++ c) = aheadM x n (runM r1 (b.drop n ++ c)) ∧ runM r b = (x, n, 0, r1) := by
  have hs := run_sound b.length r.dec b (Nat.le_refl _) hr.dec (by rw [h])
  rw [h] at hs
  have hd1 : Sound d1 := hs.1
  have hm := run_more b.length r.dec b c (Nat.le_refl _) hr.dec
  rw [h] at hm
  simp only [ne_eq, not_true_eq_false, if_false] at hm
  obtain ⟨o, m, e, d2, hT⟩ : ∃ o m e d2, run d1 (b.drop n ++ c) = (o, m, e, d2) := ⟨_, _, _, _, rfl⟩
  rw [hT] at hm
  have hS := stepM_chunk hw hk (b ++ c)
  constructor
  · by_cases h4 : d1.w = 4
    · have hT4 := run4_any d1 (b.drop n ++ c) h4
      rw [hT] at hT4
      simp only [Prod.mk.injEq] at hT4
      obtain ⟨rfl, rfl, rfl, rfl⟩ := hT4
      have w1 : r1.w = 3 := by rw [h1]; simp [h4]
      have hr1 := fun b => runM_end r1 b (by omega) (by omega) (by omega)
      rw [hm] at hS
      unfold ahead at hS
      simp only [ne_eq, not_true_eq_false, if_false, List.append_nil, Nat.add_zero] at hS
      rw [← h1] at hS
      rw [runM_step, hS]
      simp only [ne_eq, not_true_eq_false, if_false]
      rw [if_neg (by omega), hr1, hr1]
    · have w1 : r1.w = 2 := by rw [h1]; simp [h4]
      have k1 : r1.kind = 2 := by rw [h1]; exact hk
      have c1 : r1.dec = d1 := by rw [h1]
      have hS1 := stepM_chunk w1 k1 (b.drop n ++ c)
      rw [c1, hT] at hS1
      rw [hm] at hS
      unfold ahead at hS
      by_cases he : e = 0
      · subst he
        simp only [ne_eq, not_true_eq_false, if_false] at hS hS1
        obtain ⟨r2, hr2⟩ : ∃ r2, ({ r with dec := d2, w := if d2.w = 4 then 3 else 2 } : Rd) = r2 := ⟨_, rfl⟩
        have hr2' : ({ r1 with dec := d2, w := if d2.w = 4 then 3 else 2 } : Rd) = r2 := by rw [h1, ← hr2]
        rw [hr2] at hS
        rw [hr2'] at hS1
        rw [runM_step, hS]
        simp only [ne_eq, not_true_eq_false, if_false]
        rw [if_neg (by omega)]
        by_cases hm0 : m = 0
        · subst hm0
          have hs2 := (run_sound _ d1 (b.drop n ++ c) (Nat.le_refl _) hd1 (by rw [hT])).2 (by rw [hT])
          rw [hT] at hs2
          simp only at hs2
          obtain ⟨rfl, rfl⟩ := hs2
          have e12 : r2 = r1 := by rw [← hr2, h1]
          subst e12
          rw [List.append_nil, Nat.add_zero, drop_append_le hnb]
        · rw [runM_step r1, hS1]
          simp only [ne_eq, not_true_eq_false, if_false]
          rw [if_neg hm0, aheadM_aheadM, ← List.drop_drop, drop_append_le hnb]
      · simp only [ne_eq, he, not_false_eq_true, if_true] at hS hS1
        rw [runM_step, hS]
        simp only [ne_eq, he, not_false_eq_true, if_true]
        rw [runM_step r1, hS1]
        simp only [ne_eq, he, not_false_eq_true, if_true]
        unfold aheadM
        simp only [ne_eq, he, not_false_eq_true, if_true]
        rw [h1]
        simp [h4, hw]
  · have hS0 := stepM_chunk hw hk b
    rw [h] at hS0
    simp only [ne_eq, not_true_eq_false, if_false] at hS0
    rw [← h1] at hS0
    rw [runM_step, hS0]
    simp only [ne_eq, not_true_eq_false, if_false]
    rw [if_neg (by omega)]
    have hrest := run_rest hr.dec h
    have : runM r1 (b.drop n) = ([], 0, 0, r1) := by
      by_cases h4 : d1.w = 4
      · have w1 : r1.w = 3 := by rw [h1]; simp [h4]
        exact runM_end r1 _ (by omega) (by omega) (by omega)
      · have w1 : r1.w = 2 := by rw [h1]; simp [h4]
        have k1 : r1.kind = 2 := by rw [h1]; exact hk
        have c1 : r1.dec = d1 := by rw [h1]
        have hS1 := stepM_chunk w1 k1 (b.drop n)
        rw [c1, hrest] at hS1
        simp only [ne_eq, not_true_eq_false, if_false] at hS1
        have e11 : ({ r1 with dec := d1, w := if d1.w = 4 then 3 else 2 } : Rd) = r1 := by rw [h1]
        rw [e11] at hS1
        exact runM_idle r1 _ (by rw [hS1]) (by rw [hS1]) (by rw [hS1]; exact ⟨rfl, rfl⟩)
    rw [this]
    simp [aheadM]
theorem stepM_same (r : Rd) (b c : List UInt8) (hl : (b ++ c).length ≤ 65535) (h : (stepM r b).2.2.1 ≠ 0 ∨ (stepM r b).2.1 ≠ 0) (hp : r.w = 2 → r.kind ≠ 2 ∧ r.left.toNat ≤ b.length) : stepM r (b ++ c) = stepM r b := by
  unfold stepM at h ⊢
  split at h
  · rename_i hw
    rw [if_pos hw, if_pos hw]
    split at h
    · simp at h
    · rename_i h11
      rw [lineM_more c h11]
  · rename_i hw
    rw [if_neg hw, if_neg hw]
    split at h
    · rename_i hw1
      rw [if_pos hw1, if_pos hw1]
      split at h
      · simp at h
      · rename_i h11
        rw [parseL_more c hl h11]
    · rename_i hw1
      rw [if_neg hw1, if_neg hw1]
      split at h
      · rename_i hw2
        obtain ⟨p1, p2⟩ := hp hw2
        rw [if_pos hw2, if_pos hw2, if_neg p1, if_neg p1]
        have e : min r.left.toNat (b ++ c).length = min r.left.toNat b.length := by rw [List.length_append]; omega
        simp only
        rw [e, List.take_append_of_le_length (by omega)]
      · simp at h
theorem sized_part {r : Rd} {b : List UInt8} (hr : SoundM r) (hw : r.w = 2) (hk : r.kind ≠ 2) (hl : b.length < r.left.toNat) (c : List UInt8) :
    runM r (b ++ c) = aheadM b b.length (runM { r with left := r.left - b.length, w := 2 } c) ∧ runM r b = (b, b.length, 0, { r with left := r.left - b.length, w := 2 }) := by
  have hpos := hr.left hw hk
  obtain ⟨r1, h1⟩ : ∃ r1, ({ r with left := r.left - b.length, w := 2 } : Rd) = r1 := ⟨_, rfl⟩
  have w1 : r1.w = 2 := by rw [← h1]
  have k1 : r1.kind ≠ 2 := by rw [← h1]; exact hk
  have l1 : r1.left = r.left - b.length := by rw [← h1]
  have step : ∀ (q : Rd) (x : List UInt8), q.w = 2 → q.kind ≠ 2 → stepM q x = (x.take (min q.left.toNat x.length), min q.left.toNat x.length, 0, { q with left := q.left - (min q.left.toNat x.length : Nat), w := if q.left - (min q.left.toNat x.length : Nat) = 0 then 3 else 2 }) := by
    intro q x hq hqk
    unfold stepM
    rw [if_neg (by omega), if_neg (by omega), if_pos hq, if_neg hqk]
  have idle1 : runM r1 [] = ([], 0, 0, r1) := by
    have hs := step r1 [] w1 k1
    simp only [List.length_nil, Nat.min_zero, List.take_nil] at hs
    rw [if_neg (by rw [l1]; simp; omega)] at hs
    have e11 : ({ r1 with left := r1.left - ((0 : Nat) : Int), w := 2 } : Rd) = r1 := by rw [← h1]; simp
    rw [e11] at hs
    exact runM_idle r1 [] (by rw [hs]) (by rw [hs]) (by rw [hs]; exact ⟨rfl, rfl⟩)
  have hB : stepM r b = (b, b.length, 0, r1) := by
    have hs := step r b hw hk
    have e : min r.left.toNat b.length = b.length := by omega
    rw [e, List.take_length, if_neg (by omega), h1] at hs
    exact hs
  have hR : runM r b = (b, b.length, 0, r1) := by
    rw [runM_step, hB]
    simp only [ne_eq, not_true_eq_false, if_false, List.drop_length]
    by_cases h0 : b.length = 0
    · rw [if_pos h0, h0]
    · rw [if_neg h0, idle1]
      simp [aheadM]
  rw [h1]
  refine ⟨?_, hR⟩
  by_cases hc : c = []
  · subst hc
    rw [List.append_nil, hR, idle1]
    simp [aheadM]
  · have hcl : 0 < c.length := List.length_pos_iff.2 hc
    have hS1 := step r1 c w1 k1
    have hS := step r (b ++ c) hw hk
    have hm1 : min r.left.toNat (b ++ c).length = b.length + min r1.left.toNat c.length := by rw [List.length_append, l1]; omega
    have hpos1 : 0 < min r1.left.toNat c.length := by rw [l1]; omega
    obtain ⟨m, hm⟩ : ∃ m, min r1.left.toNat c.length = m := ⟨_, rfl⟩
    have e1 : (b ++ c).take (b.length + m) = b ++ c.take m := by
      rw [List.take_append, List.take_of_length_le (by omega)]
      congr 2
      omega
    have e2 : r.left - ((b.length + m : Nat) : Int) = r1.left - (m : Int) := by rw [l1]; omega
    rw [hm1, hm, e1, e2] at hS
    rw [hm] at hS1 hpos1
    obtain ⟨r2, h2⟩ : ∃ r2, ({ r with left := r1.left - (m : Int), w := if r1.left - (m : Int) = 0 then 3 else 2 } : Rd) = r2 := ⟨_, rfl⟩
    have h2' : ({ r1 with left := r1.left - (m : Int), w := if r1.left - (m : Int) = 0 then 3 else 2 } : Rd) = r2 := by rw [← h2, ← h1]
    rw [h2] at hS
    rw [h2'] at hS1
    rw [runM_step r (b ++ c), hS]
    simp only [ne_eq, not_true_eq_false, if_false]
    rw [if_neg (by omega), runM_step r1 c, hS1]
    simp only [ne_eq, not_true_eq_false, if_false]
    rw [if_neg (by omega), aheadM_aheadM]
    congr 2
    rw [List.drop_append, List.drop_eq_nil_of_le (by omega), List.nil_append]
    congr 1
    omega
/-- Fed in two pieces. -/
theorem runM_more : ∀ (n : Nat) (r : Rd) (b c : List UInt8), b.length ≤ n → SoundM r → (r.w ≤ 1 → r.dec = Dec.new) → (b ++ c).length ≤ 65535 →
    runM r (b ++ c) = if (runM r b).2.2.1 ≠ 0 then runM r b else aheadM (runM r b).1 (runM r b).2.1 (runM (runM r b).2.2.2 (b.drop (runM r b).2.1 ++ c)) := by
  intro n
  induction n with
  | zero =>
    intro r b c hb hr hd hl
    obtain rfl : b = [] := List.eq_nil_of_length_eq_zero (by omega)
    have hle := stepM_le (r := r) (b := [])
    have h0 : (stepM r []).2.1 = 0 := by simpa using hle
    by_cases he : (stepM r []).2.2.1 = 0
    · rw [runM_idle r [] he h0 (stepM_none r [] hr he h0)]
      simp only [ne_eq, not_true_eq_false, if_false, List.drop_nil]
      rw [aheadM_nil _ fun h => ⟨(runM_err r _ h).1, (runM_err r _ h).2.1⟩]
    · by_cases hp : r.w = 2
      · exfalso
        apply he
        by_cases hk : r.kind = 2
        · rw [stepM_chunk hp hk]
          have : (run r.dec []).2.2.1 = 0 := by
            rw [run_step]
            have e0 : (stepC r.dec []).2.2.1 = 0 := by
              unfold stepC
              split
              · rfl
              · split
                · rfl
                · split
                  · rfl
                  · have : lineC [] = ([], 0, 0) := rfl
                    rw [this]; rfl
            have hle2 := stepC_le (d := r.dec) (b := [])
            rw [if_neg (by simp [e0]), if_pos (by simpa using hle2)]
          rw [if_neg (by simp [this])]
        · unfold stepM
          rw [if_neg (by omega), if_neg (by omega), if_pos hp, if_neg hk]
      · have hs := stepM_same r [] c hl (.inl he) (fun h => absurd h hp)
        have hR : runM r [] = ([], 0, (stepM r []).2.2.1, { (stepM r []).2.2.2 with fault := (stepM r []).2.2.1 }) := by rw [runM_step, if_pos he]
        have hR2 : runM r ([] ++ c) = ([], 0, (stepM r []).2.2.1, { (stepM r []).2.2.2 with fault := (stepM r []).2.2.1 }) := by rw [runM_step, hs, if_pos he]
        rw [hR2, hR, if_pos (by exact he)]
  | succ n ih =>
    intro r b c hb hr hd hl
    have hle := stepM_le (r := r) (b := b)
    by_cases he : (stepM r b).2.2.1 = 0
    · by_cases h0 : (stepM r b).2.1 = 0
      · rw [runM_idle r b he h0 (stepM_none r b hr he h0)]
        simp only [ne_eq, not_true_eq_false, if_false, List.drop_zero]
        rw [aheadM_nil _ fun h => ⟨(runM_err r _ h).1, (runM_err r _ h).2.1⟩]
      · by_cases hch : r.w = 2 ∧ r.kind = 2
        · obtain ⟨hw, hk⟩ := hch
          have hS := stepM_chunk hw hk b
          obtain ⟨x, m, e, d1, hT⟩ : ∃ x m e d1, run r.dec b = (x, m, e, d1) := ⟨_, _, _, _, rfl⟩
          rw [hT] at hS
          by_cases h3 : e = 0
          · subst h3
            simp only [ne_eq, not_true_eq_false, if_false] at hS
            rw [hS] at h0 hle
            simp only at h0 hle
            obtain ⟨a1, a2⟩ := chunk_more (c := c) hr hw hk (by omega) hle hT rfl
            rw [a1, a2]
            simp
          · exfalso
            simp only [ne_eq, h3, not_false_eq_true, if_true] at hS
            rw [hS] at he
            exact h3 he
        · by_cases hp : r.w = 2 → r.kind ≠ 2 ∧ r.left.toNat ≤ b.length
          · have hs := stepM_same r b c hl (.inr h0) hp
            obtain ⟨hs2, hd2⟩ := stepM_sound r b hr hd he
            have hr1 := runM_step r (b ++ c)
            have hr2 := runM_step r b
            rw [hs, if_neg (by simp [he]), if_neg h0] at hr1
            rw [if_neg (by simp [he]), if_neg h0] at hr2
            rw [drop_append_le hle, ih _ _ c (by rw [List.length_drop]; omega) hs2 hd2 (by rw [List.length_append, List.length_drop]; rw [List.length_append] at hl; omega)] at hr1
            rw [hr1, hr2]
            generalize runM (stepM r b).2.2.2 (b.drop (stepM r b).2.1) = R
            by_cases hR : R.2.2.1 = 0
            · have e1 : aheadM (stepM r b).1 (stepM r b).2.1 R = ((stepM r b).1 ++ R.1, (stepM r b).2.1 + R.2.1, 0, R.2.2.2) := by unfold aheadM; rw [if_neg (by simp [hR])]
              rw [e1]
              simp only [hR, ne_eq, not_true_eq_false, if_false]
              rw [aheadM_aheadM, List.drop_drop]
            · have e1 : aheadM (stepM r b).1 (stepM r b).2.1 R = ([], 0, R.2.2.1, R.2.2.2) := by unfold aheadM; rw [if_pos hR]
              rw [e1, if_pos hR, if_pos hR, e1]
          · simp only [Classical.not_imp] at hp
            obtain ⟨hw, hq⟩ := hp
            have hk : r.kind ≠ 2 := fun hk => hch ⟨hw, hk⟩
            obtain ⟨a1, a2⟩ := sized_part (b := b) hr hw hk (by
              rcases Nat.lt_or_ge b.length r.left.toNat with h | h
              · exact h
              · exact absurd ⟨hk, h⟩ hq) c
            rw [a1, a2]
            simp
    · by_cases hch : r.w = 2
      · by_cases hk : r.kind = 2
        · have hS := stepM_chunk hch hk b
          have hm := run_more b.length r.dec b c (Nat.le_refl _) hr.dec
          by_cases h3 : (run r.dec b).2.2.1 = 0
          · exfalso
            rw [if_neg (by simp [h3])] at hS
            rw [hS] at he
            exact he rfl
          · rw [if_pos h3] at hm hS
            have hS2 := stepM_chunk hch hk (b ++ c)
            rw [hm, if_pos h3, ← hS] at hS2
            have hR : runM r b = ([], 0, (stepM r b).2.2.1, { (stepM r b).2.2.2 with fault := (stepM r b).2.2.1 }) := by rw [runM_step, if_pos he]
            have hR2 : runM r (b ++ c) = ([], 0, (stepM r b).2.2.1, { (stepM r b).2.2.2 with fault := (stepM r b).2.2.1 }) := by rw [runM_step, hS2, if_pos he]
            rw [hR2, hR, if_pos (by exact he)]
        · exfalso
          apply he
          unfold stepM
          rw [if_neg (by omega), if_neg (by omega), if_pos hch, if_neg hk]
      · have hs := stepM_same r b c hl (.inl he) (fun h => absurd h hch)
        have hR : runM r b = ([], 0, (stepM r b).2.2.1, { (stepM r b).2.2.2 with fault := (stepM r b).2.2.1 }) := by rw [runM_step, if_pos he]
        have hR2 : runM r (b ++ c) = ([], 0, (stepM r b).2.2.1, { (stepM r b).2.2.2 with fault := (stepM r b).2.2.1 }) := by rw [runM_step, hs, if_pos he]
        rw [hR2, hR, if_pos (by exact he)]
theorem newM_sound (asks : Bool) (method : List UInt8) : SoundM (Rd.new asks method) := ⟨new_sound, fun h => by simp [Rd.new] at h, fun h => by simp [Rd.new] at h⟩
end IH

/- Layer 8 in plain Lean: what octets so far say of a message; a message written is read as itself. Condition: no more than 65535 octets where pieces are spoken of. -/
namespace IH
set_option maxRecDepth 100000

structure Told8 where
  start : Sta
  fields : List Fld
  body : List UInt8
  framed : Bool
  n : Nat
  over : Bool
  e : Int
def Told8.none (n : Nat) (e : Int) : Told8 := ⟨Sta.zero, [], [], false, n, false, e⟩
def bodyT (s : Sta) (l : List Fld) (f : Int × Int × Int) (k : Nat) (rest : List UInt8) : Told8 :=
  if f.1 = 2 then
    (if (run Dec.new rest).2.2.1 ≠ 0 then Told8.none 0 (run Dec.new rest).2.2.1
     else ⟨s, l, (run Dec.new rest).1, true, k + (run Dec.new rest).2.1, decide ((run Dec.new rest).2.2.2.w = 4), 0⟩)
  else ⟨s, l, rest.take f.2.1.toNat, true, k + min f.2.1.toNat rest.length, decide (f.2.1.toNat ≤ rest.length), 0⟩
def headT (method : List UInt8) (s : Sta) (n : Nat) (rest : List UInt8) : Told8 :=
  if (parseFs rest).2.2 = 11 then Told8.none n 0 else if (parseFs rest).2.2 ≠ 0 then Told8.none 0 (parseFs rest).2.2
  else if (framingL s (parseFs rest).1 method).2.2 ≠ 0 then Told8.none 0 (framingL s (parseFs rest).1 method).2.2
  else bodyT s (parseFs rest).1 (framingL s (parseFs rest).1 method) (n + (parseFs rest).2.1.toNat) (rest.drop (parseFs rest).2.1.toNat)
/-- Of octets so far. -/
def toldM (asks : Bool) (method b : List UInt8) : Told8 :=
  if (lineM asks b).2.2 = 11 then Told8.none 0 0 else if (lineM asks b).2.2 ≠ 0 then Told8.none 0 (lineM asks b).2.2
  else headT method (lineM asks b).1 (lineM asks b).2.1.toNat (b.drop (lineM asks b).2.1.toNat)
/-- A run says it. -/
structure Says8 (R : List UInt8 × Nat × Int × Rd) (T : Told8) : Prop where
  err : R.2.2.1 = T.e
  body : T.e = 0 → R.1 = T.body
  took : T.e = 0 → R.2.1 = T.n
  over : T.e = 0 → (R.2.2.2.w = 3 ↔ T.over = true)
  framed : T.e = 0 → (2 ≤ R.2.2.2.w ↔ T.framed = true)
  start : T.e = 0 → T.framed = true → R.2.2.2.start = T.start ∧ R.2.2.2.fields = T.fields
theorem says_ahead {R : List UInt8 × Nat × Int × Rd} {T : Told8} (k : Nat) (h : Says8 R T) : Says8 (aheadM [] k R) { T with n := k + T.n } := by
  obtain ⟨h1, h2, h3, h4, h5, h6⟩ := h
  unfold aheadM
  by_cases he : R.2.2.1 = 0
  · rw [if_neg (by simp [he])]
    rw [he] at h1
    exact ⟨h1, fun h => by simp only [List.nil_append]; exact h2 h, fun h => by simp only; rw [h3 h], h4, h5, h6⟩
  · rw [if_pos he]
    have hT : T.e ≠ 0 := by rw [← h1]; exact he
    exact ⟨h1, fun h => absurd h hT, fun h => absurd h hT, fun h => absurd h hT, fun h => absurd h hT, fun h => absurd h hT⟩
theorem body_says {r : Rd} {s : Sta} {l : List Fld} {f : Int × Int × Int} (hs : r.start = s) (hl : r.fields = l) (hk : r.kind = f.1) (hf : r.left = f.2.1) (h0 : 0 ≤ f.2.1) (hd : r.dec = Dec.new)
    (hw : r.w = if f.1 ≠ 2 ∧ f.2.1 = 0 then 3 else 2) (rest : List UInt8) : Says8 (runM r rest) (bodyT s l f 0 rest) := by
  unfold bodyT
  by_cases h2 : f.1 = 2
  · have w2 : r.w = 2 := by rw [hw, if_neg (fun h => h.1 h2)]
    have k2 : r.kind = 2 := by rw [hk, h2]
    have hr : SoundM r := ⟨by rw [hd]; exact new_sound, fun _ _ => by rw [hd]; decide, fun _ h => absurd k2 h⟩
    have hS := stepM_chunk w2 k2 rest
    rw [hd] at hS
    rw [if_pos h2]
    obtain ⟨x, m, e, d1, hT⟩ : ∃ x m e d1, run Dec.new rest = (x, m, e, d1) := ⟨_, _, _, _, rfl⟩
    rw [hT] at hS ⊢
    simp only at hS ⊢
    by_cases he : e = 0
    · subst he
      simp only [ne_eq, not_true_eq_false, if_false] at hS ⊢
      have hR : runM r rest = (x, m, 0, { r with dec := d1, w := if d1.w = 4 then 3 else 2 }) := by
        by_cases hm : m = 0
        · have hs2 := (run_sound rest.length Dec.new rest (Nat.le_refl _) new_sound (by rw [hT])).2 (by rw [hT]; exact hm)
          rw [hT] at hs2
          simp only at hs2
          rw [runM_step, hS]
          simp only [ne_eq, not_true_eq_false, if_false]
          rw [if_pos hm, hm]
        · have hle := run_le rest.length Dec.new rest (Nat.le_refl _)
          rw [hT] at hle
          exact (chunk_more (c := []) (n := m) hr w2 k2 (by omega) hle (by rw [hd]; exact hT) rfl).2
      rw [hR]
      refine ⟨rfl, fun _ => rfl, fun _ => by simp, fun _ => ?_, fun _ => ?_, fun _ _ => ⟨hs, hl⟩⟩
      · simp only
        split <;> simp [*]
      · simp only
        split <;> simp
    · simp only [ne_eq, he, not_false_eq_true, if_true] at hS ⊢
      have hR : (runM r rest).2.2.1 = e := by
        rw [runM_step, hS]
        simp [he]
      exact ⟨hR, fun h => absurd h he, fun h => absurd h he, fun h => absurd h he, fun h => absurd h he, fun h => absurd h he⟩
  · rw [if_neg h2]
    have k2 : r.kind ≠ 2 := by rw [hk]; exact h2
    by_cases hz : f.2.1 = 0
    · have w3 : r.w = 3 := by rw [hw, if_pos ⟨h2, hz⟩]
      rw [runM_end r rest (by omega) (by omega) (by omega), hz]
      refine ⟨rfl, fun _ => by simp, fun _ => by simp, fun _ => by simp [w3], fun _ => by simp [w3], fun _ _ => ⟨hs, hl⟩⟩
    · have w2 : r.w = 2 := by rw [hw, if_neg (fun h => hz h.2)]
      have hr : SoundM r := ⟨by rw [hd]; exact new_sound, fun _ h => absurd h k2, fun _ _ => by rw [hf]; omega⟩
      by_cases hlt : rest.length < r.left.toNat
      · have hR := (sized_part (b := rest) hr w2 k2 hlt []).2
        rw [hR]
        rw [hf] at hlt
        have ht : rest.take f.2.1.toNat = rest := List.take_of_length_le (by omega)
        refine ⟨rfl, fun _ => by simp only [ht], fun _ => by simp only; omega, fun _ => ?_, fun _ => by simp, fun _ _ => ⟨hs, hl⟩⟩
        simp only [decide_eq_true_eq]
        constructor
        · intro h; omega
        · intro h; omega
      · have hle : r.left.toNat ≤ rest.length := by omega
        have hpos : 0 < r.left.toNat := by rw [hf]; omega
        have hmin : min r.left.toNat rest.length = r.left.toNat := by omega
        have hS : stepM r rest = (rest.take r.left.toNat, r.left.toNat, 0, { r with left := 0, w := 3 }) := by
          unfold stepM
          rw [if_neg (by omega), if_neg (by omega), if_pos w2, if_neg k2]
          simp only [hmin]
          have hz2 : r.left - (r.left.toNat : Int) = 0 := by omega
          rw [hz2]; rfl
        have hR : runM r rest = (rest.take r.left.toNat, r.left.toNat, 0, { r with left := 0, w := 3 }) := by
          rw [runM_step, hS]
          simp only [ne_eq, not_true_eq_false, if_false]
          rw [if_neg (by omega), runM_end _ _ (by simp) (by simp) (by simp)]
          simp [aheadM]
        rw [hR]
        rw [hf] at hle hmin ⊢
        refine ⟨rfl, fun _ => rfl, fun _ => by simp only; omega, fun _ => by simp [hle], fun _ => by simp, fun _ _ => ⟨hs, hl⟩⟩
theorem bodyT_n (s : Sta) (l : List Fld) (f : Int × Int × Int) (k : Nat) (rest : List UInt8) (h : (bodyT s l f 0 rest).e = 0) : bodyT s l f k rest = { bodyT s l f 0 rest with n := k + (bodyT s l f 0 rest).n } := by
  unfold bodyT at h ⊢
  split
  · rename_i h2
    rw [if_pos h2] at h
    split
    · rename_i he
      rw [if_pos he] at h
      simp only [Told8.none] at h
      exact absurd h he
    · simp
  · simp
theorem says_err {R : List UInt8 × Nat × Int × Rd} {T : Told8} (h : R.2.2.1 = T.e) (he : T.e ≠ 0) : Says8 R T := ⟨h, fun h => absurd h he, fun h => absurd h he, fun h => absurd h he, fun h => absurd h he, fun h => absurd h he⟩
theorem bodyT_err (s : Sta) (l : List Fld) (f : Int × Int × Int) (k : Nat) (rest : List UInt8) (_ : (bodyT s l f 0 rest).e ≠ 0) : (bodyT s l f k rest).e = (bodyT s l f 0 rest).e := by
  unfold bodyT
  split
  · split <;> rfl
  · rfl
theorem head_says {r : Rd} {method : List UInt8} (hm : r.method = method) (hw : r.w = 1) (hd : r.dec = Dec.new) (rest : List UInt8) : Says8 (runM r rest) (headT method r.start 0 rest) := by
  have hS : stepM r rest = if (parseFs rest).2.2 = 11 then ([], 0, 0, r) else if (parseFs rest).2.2 ≠ 0 then ([], 0, (parseFs rest).2.2, r)
      else if (framingL r.start (parseFs rest).1 r.method).2.2 ≠ 0 then ([], 0, (framingL r.start (parseFs rest).1 r.method).2.2, { r with fields := (parseFs rest).1, kind := 0, left := 0 })
      else ([], (parseFs rest).2.1.toNat, 0, { r with fields := (parseFs rest).1, kind := (framingL r.start (parseFs rest).1 r.method).1, left := (framingL r.start (parseFs rest).1 r.method).2.1, w := if (framingL r.start (parseFs rest).1 r.method).1 ≠ 2 ∧ (framingL r.start (parseFs rest).1 r.method).2.1 = 0 then 3 else 2 }) := by
    unfold stepM
    rw [if_neg (by omega), if_pos hw]
  subst hm
  unfold headT
  by_cases h11 : (parseFs rest).2.2 = 11
  · rw [if_pos h11] at hS ⊢
    rw [runM_step, hS]
    simp only [ne_eq, not_true_eq_false, if_false, if_true]
    exact ⟨rfl, fun _ => rfl, fun _ => rfl, fun _ => by simp [Told8.none, hw], fun _ => by simp [Told8.none, hw], fun _ h => by simp [Told8.none] at h⟩
  · rw [if_neg h11] at hS ⊢
    by_cases he : (parseFs rest).2.2 = 0
    · rw [if_neg (by simp [he])] at hS ⊢
      by_cases hf : (framingL r.start (parseFs rest).1 r.method).2.2 = 0
      · rw [if_neg (by simp [hf])] at hS ⊢
        have hbd := parseL_bd he
        obtain ⟨r1, h1⟩ : ∃ r1, ({ r with fields := (parseFs rest).1, kind := (framingL r.start (parseFs rest).1 r.method).1, left := (framingL r.start (parseFs rest).1 r.method).2.1, w := if (framingL r.start (parseFs rest).1 r.method).1 ≠ 2 ∧ (framingL r.start (parseFs rest).1 r.method).2.1 = 0 then 3 else 2 } : Rd) = r1 := ⟨_, rfl⟩
        rw [h1] at hS
        have hB := body_says (r := r1) (s := r.start) (l := (parseFs rest).1) (f := framingL r.start (parseFs rest).1 r.method) (by rw [← h1]) (by rw [← h1]) (by rw [← h1]) (by rw [← h1])
          (framing_left _ _ _) (by rw [← h1]; exact hd) (by rw [← h1]) (rest.drop (parseFs rest).2.1.toNat)
        have hR : runM r rest = aheadM [] (parseFs rest).2.1.toNat (runM r1 (rest.drop (parseFs rest).2.1.toNat)) := by
          rw [runM_step, hS]
          simp only [ne_eq, not_true_eq_false, if_false]
          rw [if_neg (by omega)]
        rw [hR, Nat.zero_add]
        have hA := says_ahead (parseFs rest).2.1.toNat hB
        by_cases hz : (bodyT r.start (parseFs rest).1 (framingL r.start (parseFs rest).1 r.method) 0 (rest.drop (parseFs rest).2.1.toNat)).e = 0
        · rw [bodyT_n _ _ _ (parseFs rest).2.1.toNat _ hz]
          exact hA
        · exact says_err (hA.err.trans (bodyT_err _ _ _ _ _ hz).symm) (by rw [bodyT_err _ _ _ _ _ hz]; exact hz)
      · rw [if_pos hf] at hS ⊢
        refine says_err ?_ hf
        rw [runM_step, hS]
        simp only
        rw [if_pos hf]
        rfl
    · rw [if_pos he] at hS ⊢
      refine says_err ?_ he
      rw [runM_step, hS]
      simp only
      rw [if_pos he]
      rfl
theorem headT_n (method : List UInt8) (s : Sta) (k : Nat) (rest : List UInt8) : headT method s k rest = { headT method s 0 rest with n := if (headT method s 0 rest).e = 0 then k + (headT method s 0 rest).n else (headT method s k rest).n } := by
  unfold headT
  split
  · simp [Told8.none]
  · split
    · rename_i he; simp [Told8.none, he]
    · split
      · rename_i hf; simp [Told8.none, hf]
      · unfold bodyT
        split
        · split
          · rename_i he; simp [Told8.none, he]
          · simp; omega
        · simp; omega
theorem told_says (asks : Bool) (method b : List UInt8) : Says8 (runM (Rd.new asks method) b) (toldM asks method b) := by
  have hS : stepM (Rd.new asks method) b = if (lineM asks b).2.2 = 11 then ([], 0, 0, Rd.new asks method) else if (lineM asks b).2.2 ≠ 0 then ([], 0, (lineM asks b).2.2, Rd.new asks method)
      else ([], (lineM asks b).2.1.toNat, 0, { Rd.new asks method with start := (lineM asks b).1, w := 1 }) := by
    unfold stepM
    rw [if_pos (show (Rd.new asks method).w = 0 from rfl)]
    rfl
  unfold toldM
  by_cases h11 : (lineM asks b).2.2 = 11
  · rw [if_pos h11] at hS ⊢
    rw [runM_step, hS]
    simp only [ne_eq, not_true_eq_false, if_false, if_true]
    exact ⟨rfl, fun _ => rfl, fun _ => rfl, fun _ => by simp [Told8.none, Rd.new], fun _ => by simp [Told8.none, Rd.new], fun _ h => by simp [Told8.none] at h⟩
  · rw [if_neg h11] at hS ⊢
    by_cases he : (lineM asks b).2.2 = 0
    · rw [if_neg (by simp [he])] at hS ⊢
      have hpos := lineM_pos he
      obtain ⟨r1, h1⟩ : ∃ r1, ({ Rd.new asks method with start := (lineM asks b).1, w := 1 } : Rd) = r1 := ⟨_, rfl⟩
      rw [h1] at hS
      have hB := head_says (r := r1) (method := method) (by rw [← h1]; rfl) (by rw [← h1]) (by rw [← h1]; rfl) (b.drop (lineM asks b).2.1.toNat)
      have hst : r1.start = (lineM asks b).1 := by rw [← h1]
      rw [hst] at hB
      have hR : runM (Rd.new asks method) b = aheadM [] (lineM asks b).2.1.toNat (runM r1 (b.drop (lineM asks b).2.1.toNat)) := by
        rw [runM_step, hS]
        simp only [ne_eq, not_true_eq_false, if_false]
        rw [if_neg (by omega)]
      have hA := says_ahead (lineM asks b).2.1.toNat hB
      rw [hR, headT_n]
      by_cases hz : (headT method (lineM asks b).1 0 (b.drop (lineM asks b).2.1.toNat)).e = 0
      · rw [if_pos hz]; exact hA
      · exact says_err hA.err hz
    · rw [if_pos he] at hS ⊢
      refine says_err ?_ he
      rw [runM_step, hS]
      simp only
      rw [if_pos he]
      rfl

/-! Written, and read. -/
structure Msg where
  start : Sta
  fields : List Fld
  body : List UInt8
def rightM (m : Msg) (method : List UInt8) : Bool :=
  right6 m.start && decide (faultL m.fields = 0) && decide ((framingL m.start m.fields method).2.2 = 0) &&
  (if (framingL m.start m.fields method).1 = 2 then decide (m.body.length ≤ 1048576) else decide ((m.body.length : Int) = (framingL m.start m.fields method).2.1))
def printM (m : Msg) (method : List UInt8) : List UInt8 := printS m.start ++ (printL m.fields ++ if (framingL m.start m.fields method).1 = 2 then encL [m.body] else m.body)
theorem right_parts {m : Msg} {method : List UInt8} (h : rightM m method = true) : right6 m.start = true ∧ faultL m.fields = 0 ∧ (framingL m.start m.fields method).2.2 = 0 ∧
    (if (framingL m.start m.fields method).1 = 2 then m.body.length ≤ 1048576 else (m.body.length : Int) = (framingL m.start m.fields method).2.1) := by
  simp only [rightM, Bool.and_eq_true, decide_eq_true_eq] at h
  obtain ⟨⟨⟨h1, h2⟩, h3⟩, h4⟩ := h
  refine ⟨h1, h2, h3, ?_⟩
  split at h4
  · rename_i hk; rw [if_pos hk]; simpa using h4
  · rename_i hk; rw [if_neg hk]; simpa using h4
end IH

