/- Xa: several texts, one behind the other. -/
import Derived.Test.YtniiadhhefgmcaaGreatDoorPm
import Derived.Test.YtniiadhhefgmcaaGreatDoorMs
/- Texts in their order, octet by octet, in plain Lean. No program in sight; no condition. -/
namespace IH
set_option maxRecDepth 100000

end IH

/- Layer 26 in plain Lean: which keys a log keeps, in their order; messages one behind the other. No program in sight; no condition. -/
namespace IH
set_option maxRecDepth 100000

/-- A whole message has octets. -/
theorem told_pos {asks : Bool} {m b : List UInt8} (ho : (toldM asks m b).over = true) : 0 < (toldM asks m b).n := by
  unfold toldM at ho ⊢
  split
  · rename_i h; rw [if_pos h] at ho; simp [Told8.none] at ho
  · rename_i h
    rw [if_neg h] at ho
    split
    · rename_i h2; rw [if_pos h2] at ho; simp [Told8.none] at ho
    · rename_i h2
      rw [if_neg h2] at ho
      have hp := lineM_pos (asks := asks) (b := b) (by omega)
      unfold headT at ho ⊢
      split
      · rename_i h3; rw [if_pos h3] at ho; simp [Told8.none] at ho
      · rename_i h3
        rw [if_neg h3] at ho
        split
        · rename_i h4; rw [if_pos h4] at ho; simp [Told8.none] at ho
        · rename_i h4
          rw [if_neg h4] at ho
          split
          · rename_i h5; rw [if_pos h5] at ho; simp [Told8.none] at ho
          · rename_i h5
            rw [if_neg h5] at ho
            unfold bodyT at ho ⊢
            split
            · rename_i h6
              rw [if_pos h6] at ho
              split
              · rename_i h7; rw [if_pos h7] at ho; simp [Told8.none] at ho
              · simp only; omega
            · simp only; omega
end IH

/- Layers 7, 8 and 26 in plain Lean: the document's examples. No condition. -/
namespace IH
set_option maxRecDepth 100000

end IH

/- Layer 23 in plain Lean: an exchange's responses, interim ones gone past, as its octets come. Condition: no more than 65535 octets. -/
namespace IH
set_option maxRecDepth 100000
/-- Of all octets that came: the response behind the interim ones, and where it begins. -/
def told23F : Nat → Nat → List UInt8 → List UInt8 → Told8 × Nat
  | 0, p, m, b => (toldM false m (b.drop p), p)
  | f + 1, p, m, b =>
    if (toldM false m (b.drop p)).e ≠ 0 ∨ (toldM false m (b.drop p)).over = false ∨ 200 ≤ (toldM false m (b.drop p)).start.status then (toldM false m (b.drop p), p)
    else told23F f (p + (toldM false m (b.drop p)).n) m b
def told23 (m b : List UInt8) : Told8 × Nat := told23F (b.length + 1) 0 m b
theorem resp_status {b : List UInt8} (h : (responseL b).2.2 = 0) : 100 ≤ (responseL b).1.status := by
  unfold responseL at h ⊢
  split
  · rename_i h1; rw [if_pos h1] at h; exact absurd h h1
  · rename_i h1
    rw [if_neg h1] at h
    split
    · rename_i h2; rw [if_pos h2] at h; exact absurd h h2
    · rename_i h2
      have h3 : (respC (lineS 300 b).1).2 = 0 := by simpa using h2
      show 100 ≤ (respC (lineS 300 b).1).1.status
      generalize (lineS 300 b).1 = s at h3 ⊢
      unfold respC at h3 ⊢
      split
      · rename_i h4
        rw [if_pos h4] at h3
        split
        · rename_i h5; rw [h5] at h3; simp at h3
        · rename_i m h5
          rw [h5] at h3
          simp only at h3
          split
          · rename_i h6; rw [if_pos h6] at h3; simp at h3
          · rename_i h6
            rw [if_neg h6] at h3
            split
            · rename_i h7; rw [if_pos h7] at h3; simp at h3
            · show 100 ≤ (numR 10 999 (spW (spR s))).1
              have := fun h => h6 (.inr (.inr (.inl h)))
              omega
      · rename_i h4; rw [if_neg h4] at h3; simp at h3
/-- An interim response has no body. -/
theorem told_interim {m b : List UInt8} (h : (toldM false m b).start.status < 200) : (toldM false m b).body = [] := by
  unfold toldM at h ⊢
  split
  · rfl
  · rename_i h1
    rw [if_neg h1] at h
    split
    · rfl
    · rename_i h2
      rw [if_neg h2] at h
      have h3 : (lineM false b).2.2 = 0 := by simpa using h2
      have hs : 100 ≤ (lineM false b).1.status := resp_status (b := b) (by unfold lineM at h3; simpa using h3)
      generalize (lineM false b).1 = s at h hs ⊢
      generalize (lineM false b).2.1.toNat = k at h ⊢
      unfold headT at h ⊢
      split
      · rfl
      · rename_i h4
        rw [if_neg h4] at h
        split
        · rfl
        · rename_i h5
          rw [if_neg h5] at h
          split
          · rfl
          · rename_i h6
            rw [if_neg h6] at h
            by_cases hst2 : s.status < 200
            · have hf : framingL s (parseFs (b.drop k)).1 m = (0, 0, 0) := by
                unfold framingL
                rw [if_pos ⟨by omega, by simp [bareM, hst2]⟩]
              rw [hf]
              unfold bodyT
              simp
            · unfold bodyT at h ⊢
              split
              · rename_i h9
                rw [if_pos h9] at h
                split
                · rfl
                · rename_i h10
                  rw [if_neg h10] at h
                  exact absurd h hst2
              · rename_i h9
                rw [if_neg h9] at h
                exact absurd h hst2
theorem runM_le23 : ∀ (k : Nat) (r : Rd) (b : List UInt8), b.length ≤ k → (runM r b).2.1 ≤ b.length := by
  intro k
  induction k with
  | zero =>
    intro r b hb
    have hle := stepM_le (r := r) (b := b)
    rw [runM_step]
    split
    · exact Nat.zero_le _
    · rw [if_pos (by omega)]; exact Nat.zero_le _
  | succ k ih =>
    intro r b hb
    have hle := stepM_le (r := r) (b := b)
    rw [runM_step]
    split
    · exact Nat.zero_le _
    · split
      · exact Nat.zero_le _
      · have h1 := ih (stepM r b).2.2.2 (b.drop (stepM r b).2.1) (by rw [List.length_drop]; omega)
        rw [List.length_drop] at h1
        unfold aheadM
        split
        · exact Nat.zero_le _
        · show (stepM r b).2.1 + _ ≤ _
          omega
theorem runM_sound : ∀ (k : Nat) (r : Rd) (b : List UInt8), b.length ≤ k → SoundM r → (r.w ≤ 1 → r.dec = Dec.new) → (runM r b).2.2.1 = 0 →
    SoundM (runM r b).2.2.2 ∧ ((runM r b).2.2.2.w ≤ 1 → (runM r b).2.2.2.dec = Dec.new) ∧ ((runM r b).2.1 = 0 → runM r b = ([], 0, 0, r)) := by
  intro k
  induction k with
  | zero =>
    intro r b hb hr hd he
    have hle := stepM_le (r := r) (b := b)
    rw [runM_step] at he
    split at he
    · rename_i h; exact absurd he h
    · rename_i h
      have h0 : (stepM r b).2.2.1 = 0 := by simpa using h
      have hz : (stepM r b).2.1 = 0 := by omega
      have hi := runM_idle r b h0 hz (stepM_none r b hr h0 hz)
      rw [hi]
      exact ⟨hr, hd, fun _ => rfl⟩
  | succ k ih =>
    intro r b hb hr hd he
    have hle := stepM_le (r := r) (b := b)
    rw [runM_step] at he
    split at he
    · rename_i h; exact absurd he h
    · rename_i h
      have h0 : (stepM r b).2.2.1 = 0 := by simpa using h
      by_cases hz : (stepM r b).2.1 = 0
      · have hi := runM_idle r b h0 hz (stepM_none r b hr h0 hz)
        rw [hi]
        exact ⟨hr, hd, fun _ => rfl⟩
      · rw [if_neg hz] at he
        obtain ⟨s1, s2⟩ := stepM_sound r b hr hd h0
        have he' : (runM (stepM r b).2.2.2 (b.drop (stepM r b).2.1)).2.2.1 = 0 := by
          unfold aheadM at he
          split at he
          · rename_i h3; exact absurd he h3
          · rename_i h3; simpa using h3
        have h5 := ih (stepM r b).2.2.2 (b.drop (stepM r b).2.1) (by rw [List.length_drop]; omega) s1 s2 he'
        rw [runM_step, if_neg h, if_neg hz]
        unfold aheadM
        rw [if_neg (by simpa using he')]
        exact ⟨h5.1, h5.2.1, fun h6 => by simp only at h6; omega⟩
/-- An exchange's reader, after so many octets of all: those of the responses ahead, and those taken of this one. -/
structure Xin (S m : List UInt8) (E p took : Nat) (out : List UInt8) (r : Rd) : Prop where
  sound : SoundM r
  dec : r.w ≤ 1 → r.dec = Dec.new
  inS : p + took ≤ E
  run : ∀ e, E ≤ e → e ≤ S.length → runM (Rd.new false m) ((S.take e).drop p) = aheadM out took (runM r ((S.take e).drop (p + took)))
  tell : ∀ e, E ≤ e → e ≤ S.length → ∃ f, told23 m (S.take e) = told23F f p m (S.take e) ∧ e - p < f
  last : ¬ (r.w = 3 ∧ r.start.status < 200)
theorem Xin.more {S m : List UInt8} {E E' p took : Nat} {out : List UInt8} {r : Rd} (h : Xin S m E p took out r) (hE : E ≤ E') : Xin S m E' p took out r :=
  ⟨h.sound, h.dec, Nat.le_trans h.inS hE, fun e he => h.run e (Nat.le_trans hE he), fun e he => h.tell e (Nat.le_trans hE he), h.last⟩
theorem take_win {S : List UInt8} {E q n e : Nat} (hn : q + n ≤ E) (he : E ≤ e) : ((S.take E).drop q).take n = ((S.take e).drop q).take n := by
  rw [List.drop_take, List.drop_take, List.take_take, List.take_take, Nat.min_eq_left (by omega), Nat.min_eq_left (by omega)]
/-- What a window's run says of all that came. -/
theorem Xin.window {S m : List UInt8} {E p took : Nat} {out : List UInt8} {r : Rd} (h : Xin S m E p took out r) (hS : S.length ≤ 65535) {n : Nat} (hn : p + took + n ≤ E) {R : List UInt8 × Nat × Int × Rd} (hR : runM r (((S.take E).drop (p + took)).take n) = R) {e : Nat} (he : E ≤ e) :
    runM r ((S.take e).drop (p + took)) = if R.2.2.1 ≠ 0 then R else aheadM R.1 R.2.1 (runM R.2.2.2 ((S.take e).drop (p + took + R.2.1))) := by
  rw [take_win hn he] at hR
  obtain ⟨X, hX⟩ : ∃ X, (S.take e).drop (p + took) = X := ⟨_, rfl⟩
  rw [hX] at hR
  have hXl : X.length ≤ 65535 := by rw [← hX, List.length_drop, List.length_take]; omega
  have hd : (S.take e).drop (p + took + R.2.1) = X.drop R.2.1 := by rw [← hX, List.drop_drop]
  rw [hX, hd]
  have hm := runM_more (X.take n).length r (X.take n) (X.drop n) (Nat.le_refl _) h.sound h.dec (by rw [List.take_append_drop]; exact hXl)
  have hle := runM_le23 _ r (X.take n) (Nat.le_refl _)
  rw [hR] at hm hle
  rw [List.take_append_drop] at hm
  rw [hm]
  have : (X.take n).drop R.2.1 ++ X.drop n = X.drop R.2.1 := by
    conv => rhs; rw [← List.take_append_drop n X]
    exact (drop_append_le hle).symm
  rw [this]
theorem Xin.err {S m : List UInt8} {E p took : Nat} {out : List UInt8} {r : Rd} (h : Xin S m E p took out r) (hS : S.length ≤ 65535) (hES : E ≤ S.length) {n : Nat} (hn : p + took + n ≤ E) {R : List UInt8 × Nat × Int × Rd} (hR : runM r (((S.take E).drop (p + took)).take n) = R) (he : R.2.2.1 ≠ 0) :
    (told23 m (S.take E)).1.e = R.2.2.1 := by
  have hw := h.window hS hn hR (Nat.le_refl E)
  rw [if_pos he] at hw
  have hr := h.run E (Nat.le_refl E) hES
  rw [hw] at hr
  have hs := told_says false m ((S.take E).drop p)
  rw [hr] at hs
  have h1 := hs.err
  unfold aheadM at h1
  rw [if_pos he] at h1
  simp only at h1
  obtain ⟨f, h2, h3⟩ := h.tell E (Nat.le_refl E) hES
  rw [h2]
  cases f with
  | zero => exact h1.symm
  | succ f =>
    unfold told23F
    rw [if_pos (.inl (by rw [← h1]; exact he))]
    exact h1.symm
theorem aheadM_ok {o : List UInt8} {n : Nat} {R : List UInt8 × Nat × Int × Rd} (h : R.2.2.1 = 0) : aheadM o n R = (o ++ R.1, n + R.2.1, 0, R.2.2.2) := by
  unfold aheadM
  rw [if_neg (by simpa using h)]
theorem Xin.on {S m : List UInt8} {E p took : Nat} {out : List UInt8} {r : Rd} (h : Xin S m E p took out r) (hS : S.length ≤ 65535) {n : Nat} (hn : p + took + n ≤ E) {R : List UInt8 × Nat × Int × Rd} (hR : runM r (((S.take E).drop (p + took)).take n) = R) (he : R.2.2.1 = 0)
    (hl : ¬ (R.2.2.2.w = 3 ∧ R.2.2.2.start.status < 200)) : Xin S m E p (took + R.2.1) (out ++ R.1) R.2.2.2 := by
  have hle := runM_le23 _ r (((S.take E).drop (p + took)).take n) (Nat.le_refl _)
  have hsn := runM_sound _ r (((S.take E).drop (p + took)).take n) (Nat.le_refl _) h.sound h.dec (by rw [hR]; exact he)
  rw [hR] at hle hsn
  rw [List.length_take] at hle
  refine ⟨hsn.1, hsn.2.1, by omega, fun e h1 h2 => ?_, h.tell, hl⟩
  have hw := h.window hS hn hR h1
  rw [if_neg (by simpa using he)] at hw
  rw [h.run e h1 h2, hw, aheadM_aheadM, Nat.add_assoc p took]
theorem Xin.past {S m : List UInt8} {E p took : Nat} {out : List UInt8} {r : Rd} (h : Xin S m E p took out r) (hS : S.length ≤ 65535) (hES : E ≤ S.length) {n : Nat} (hn : p + took + n ≤ E) {R : List UInt8 × Nat × Int × Rd} (hR : runM r (((S.take E).drop (p + took)).take n) = R) (he : R.2.2.1 = 0)
    (hl : R.2.2.2.w = 3 ∧ R.2.2.2.start.status < 200) : Xin S m E (p + (took + R.2.1)) 0 [] (Rd.new false m) ∧ out ++ R.1 = [] ∧ 0 < took + R.2.1 := by
  have hle := runM_le23 _ r (((S.take E).drop (p + took)).take n) (Nat.le_refl _)
  rw [hR] at hle
  rw [List.length_take] at hle
  have key : ∀ e, E ≤ e → e ≤ S.length → (toldM false m ((S.take e).drop p)).e = 0 ∧ (toldM false m ((S.take e).drop p)).over = true ∧ (toldM false m ((S.take e).drop p)).start.status < 200 ∧ (toldM false m ((S.take e).drop p)).n = took + R.2.1 ∧ out ++ R.1 = [] := by
    intro e h1 h2
    have hw := h.window hS hn hR h1
    rw [if_neg (by simpa using he), runM_end R.2.2.2 _ (by omega) (by omega) (by omega)] at hw
    have hr := h.run e h1 h2
    rw [hw, aheadM_ok rfl, aheadM_ok rfl] at hr
    simp only [List.append_nil, Nat.add_zero] at hr
    have hs := told_says false m ((S.take e).drop p)
    rw [hr] at hs
    have e0 : (toldM false m ((S.take e).drop p)).e = 0 := hs.err.symm
    have e1 := (hs.over e0).1 hl.1
    have e2 := (hs.framed e0).1 (by show 2 ≤ R.2.2.2.w; omega)
    have e3 := (hs.start e0 e2).1
    have e4 : (toldM false m ((S.take e).drop p)).start.status < 200 := by rw [← e3]; exact hl.2
    exact ⟨e0, e1, e4, (hs.took e0).symm, by rw [← told_interim e4]; exact hs.body e0⟩
  obtain ⟨k0, k1, k2, k3, k4⟩ := key E (Nat.le_refl _) hES
  have hpos : 0 < took + R.2.1 := by rw [← k3]; exact told_pos k1
  refine ⟨⟨newM_sound _ _, fun _ => rfl, by omega, fun e _ _ => ?_, fun e h1 h2 => ?_, fun h => ?_⟩, k4, hpos⟩
  · rw [Nat.add_zero, aheadM_nil _ fun h => ⟨(runM_err _ _ h).1, (runM_err _ _ h).2.1⟩]
  · obtain ⟨f, h3, h4⟩ := h.tell e h1 h2
    obtain ⟨q0, q1, q2, q3, q4⟩ := key e h1 h2
    cases f with
    | zero => omega
    | succ f =>
      refine ⟨f, ?_, by omega⟩
      rw [h3]
      conv => lhs; unfold told23F
      rw [if_neg (by simp [q0, q1]; omega), q3]
  · have := h.1
    simp [Rd.new] at this
/-- What stands, where nothing more can be taken. -/
structure Rest23 (T : Told8 × Nat) (at_ : Nat) (out : List UInt8) (r : Rd) : Prop where
  err : T.1.e = 0
  over : (r.w == 3) = T.1.over
  at_ : T.2 + T.1.n = at_
  framed : (2 ≤ r.w ↔ T.1.framed = true)
  head : T.1.framed = true → r.start = T.1.start ∧ r.fields = T.1.fields
  body : out = T.1.body
theorem Xin.rest {S m : List UInt8} {E p took : Nat} {out : List UInt8} {r : Rd} (h : Xin S m E p took out r) (hES : E ≤ S.length) (hR : runM r ((S.take E).drop (p + took)) = ([], 0, 0, r)) :
    Rest23 (told23 m (S.take E)) (p + took) out r := by
  have hr := h.run E (Nat.le_refl _) hES
  rw [hR, aheadM_ok rfl] at hr
  simp only [List.append_nil, Nat.add_zero] at hr
  have hs := told_says false m ((S.take E).drop p)
  rw [hr] at hs
  have e0 : (toldM false m ((S.take E).drop p)).e = 0 := hs.err.symm
  obtain ⟨f, h2, h3⟩ := h.tell E (Nat.le_refl E) hES
  have hT : told23 m (S.take E) = (toldM false m ((S.take E).drop p), p) := by
    rw [h2]
    cases f with
    | zero => rfl
    | succ f =>
      unfold told23F
      refine if_pos ?_
      by_cases hw : r.w = 3
      · refine .inr (.inr ?_)
        have e1 := (hs.framed e0).1 (by show 2 ≤ r.w; omega)
        rw [← (hs.start e0 e1).1]
        show 200 ≤ r.start.status
        exact Int.not_lt.1 fun hh => h.last ⟨hw, hh⟩
      · refine .inr (.inl ?_)
        cases ho : (toldM false m ((S.take E).drop p)).over with
        | false => rfl
        | true => exact absurd ((hs.over e0).2 ho) hw
  rw [hT]
  refine ⟨e0, ?_, ?_, hs.framed e0, fun hf => hs.start e0 hf, hs.body e0⟩
  · rw [Bool.eq_iff_iff, beq_iff_eq]
    exact hs.over e0
  · show p + (toldM false m ((S.take E).drop p)).n = p + took
    rw [← hs.took e0]
end IH

