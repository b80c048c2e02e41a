/- Layer 5 in plain Lean: hosts, ports, coded octets, paths, and what is made normal. No program in sight; no condition. -/
import Derived.Test.YtaddefjkjlkjnaaDoorPm
namespace IH
set_option maxRecDepth 100000

structure Uri where
  host : List UInt8
  port : Int
  path : List UInt8
def free5 (c : UInt8) : Bool := isLetter c || c == 45 || c == 46 || c == 95 || c == 126
def subs5 : List UInt8 := [33, 36, 38, 39, 40, 41, 42, 43, 44, 59, 61]
def isSub (c : UInt8) : Bool := subs5.contains c
def isHex (c : UInt8) : Bool := decide (dig c < 16)
/-- A hexadecimal digit, a great letter if it is one. -/
def greatC (c : UInt8) : UInt8 := if 97 ≤ c.toNat then c - 32 else c
/-- May an octet stand so in a path (in a query: q)? -/
def okC (q : Bool) (c : UInt8) : Bool := free5 c || isSub c || c == 58 || c == 64 || c == 47 || (q && c == 63)
def hexN (a b : UInt8) : UInt8 := UInt8.ofNat (dig a * 16 + dig b)
def enc5 (a b : UInt8) : List UInt8 := if free5 (hexN a b) = true then [hexN a b] else [37, greatC a, greatC b]
/-- Octets made normal. -/
def codedL (q : Bool) : List UInt8 → Option (List UInt8)
  | [] => some []
  | [c] => if c ≠ 37 ∧ okC q c = true then some [c] else none
  | [c, d] => if c ≠ 37 ∧ okC q c = true ∧ d ≠ 37 ∧ okC q d = true then some [c, d] else none
  | c :: a :: b :: r =>
    if c = 37 then (if isHex a = true ∧ isHex b = true then (codedL q r).map (enc5 a b ++ ·) else none)
    else if okC q c = true then (codedL q (a :: b :: r)).map (c :: ·) else none
termination_by l => l.length

theorem ok_not37 (q : Bool) : okC q 37 = false := by cases q <;> decide
theorem coded_cons (q : Bool) (c : UInt8) (r : List UInt8) (hc : c ≠ 37) : codedL q (c :: r) = if okC q c = true then (codedL q r).map (c :: ·) else none := by
  cases r with
  | nil => simp [codedL, hc]
  | cons a r =>
    cases r with
    | nil =>
      by_cases h : okC q c = true <;> by_cases h2 : a ≠ 37 ∧ okC q a = true <;> simp [codedL, hc, h, h2]
    | cons b r => rw [codedL, if_neg hc]
theorem coded_hex (q : Bool) (a b : UInt8) (r : List UInt8) : codedL q (37 :: a :: b :: r) = if isHex a = true ∧ isHex b = true then (codedL q r).map (enc5 a b ++ ·) else none := by
  rw [codedL, if_pos rfl]
theorem coded_end1 (q : Bool) : codedL q [37] = none := by simp [codedL]
theorem coded_end2 (q : Bool) (a : UInt8) : codedL q [37, a] = none := by simp [codedL]
/-- One case after the other. -/
theorem coded_ind {motive : List UInt8 → Prop} (h0 : motive []) (h1 : ∀ c r, c ≠ 37 → motive r → motive (c :: r)) (h2 : ∀ a b r, motive r → motive (37 :: a :: b :: r))
    (h3 : motive [37]) (h4 : ∀ a, motive [37, a]) : ∀ l, motive l := by
  have key : ∀ (n : Nat) (l : List UInt8), l.length ≤ n → motive l := by
    intro n
    induction n with
    | zero => intro l hl; obtain rfl : l = [] := List.eq_nil_of_length_eq_zero (by omega); exact h0
    | succ n ih =>
      intro l hl
      cases l with
      | nil => exact h0
      | cons c r =>
        simp only [List.length_cons] at hl
        by_cases hc : c = 37
        · subst hc
          cases r with
          | nil => exact h3
          | cons a r => cases r with
            | nil => exact h4 a
            | cons b r =>
              simp only [List.length_cons] at hl
              exact h2 a b r (ih r (by omega))
        · exact h1 c r hc (ih r (by omega))
  exact fun l => key l.length l (Nat.le_refl _)
theorem hex_great (a : UInt8) : isHex a = true → isHex (greatC a) = true ∧ dig (greatC a) = dig a ∧ greatC (greatC a) = greatC a ∧ greatC a ≠ 47 ∧ greatC a ≠ 63 ∧ greatC a ≠ 37 ∧ a ≠ 47 := by
  have := all_bytes (fun a => !isHex a || (isHex (greatC a) && dig (greatC a) == dig a && greatC (greatC a) == greatC a && greatC a != 47 && greatC a != 63 && greatC a != 37 && a != 47)) (by decide +kernel) a
  intro h
  simp only [h, Bool.not_true, Bool.false_or, Bool.and_eq_true, beq_iff_eq, bne_iff_ne] at this
  obtain ⟨⟨⟨⟨⟨⟨h1, h2⟩, h3⟩, h4⟩, h5⟩, h6⟩, h7⟩ := this
  exact ⟨h1, h2, h3, h4, h5, h6, h7⟩
theorem free_ok (c : UInt8) (h : free5 c = true) : c ≠ 37 ∧ c ≠ 47 ∧ c ≠ 63 ∧ ∀ q, okC q c = true := by
  refine ⟨?_, ?_, ?_, fun q => by simp [okC, h]⟩ <;> (intro e; subst e; revert h; decide)
theorem enc_coded (q : Bool) (a b : UInt8) (ha : isHex a = true) (hb : isHex b = true) (r : List UInt8) : codedL q (enc5 a b ++ r) = (codedL q r).map (enc5 a b ++ ·) := by
  obtain ⟨a1, a2, a3, _⟩ := hex_great a ha
  obtain ⟨b1, b2, b3, _⟩ := hex_great b hb
  unfold enc5
  by_cases h : free5 (hexN a b) = true
  · obtain ⟨h1, _, _, h2⟩ := free_ok _ h
    rw [if_pos h]
    simp only [List.cons_append, List.nil_append]
    rw [coded_cons q _ _ h1, if_pos (h2 q)]
  · rw [if_neg h]
    simp only [List.cons_append, List.nil_append]
    rw [coded_hex, if_pos ⟨a1, b1⟩]
    have e : hexN (greatC a) (greatC b) = hexN a b := by unfold hexN; rw [a2, b2]
    unfold enc5
    rw [e, if_neg h, a3, b3]
    rfl
/-- What was made normal is normal. -/
theorem coded_again (q : Bool) : ∀ s p : List UInt8, codedL q s = some p → codedL q p = some p := by
  refine coded_ind ?_ ?_ ?_ ?_ ?_
  · intro p h; simp only [codedL, Option.some.injEq] at h; subst h; simp [codedL]
  · intro c r hc ih p h
    rw [coded_cons q c r hc] at h
    split at h
    · rename_i hk
      obtain ⟨p', hp, rfl⟩ := Option.map_eq_some_iff.1 h
      rw [coded_cons q c p' hc, if_pos hk, ih p' hp]; rfl
    · cases h
  · intro a b r ih p h
    rw [coded_hex] at h
    split at h
    · rename_i hk
      obtain ⟨p', hp, rfl⟩ := Option.map_eq_some_iff.1 h
      rw [enc_coded q a b hk.1 hk.2, ih p' hp]; rfl
    · cases h
  · intro p h; rw [coded_end1] at h; cases h
  · intro a p h; rw [coded_end2] at h; cases h
theorem enc_free (a b : UInt8) (ha : isHex a = true) (hb : isHex b = true) : ∀ c ∈ enc5 a b, c ≠ 47 ∧ c ≠ 63 := by
  obtain ⟨_, _, _, a1, a2, _⟩ := hex_great a ha
  obtain ⟨_, _, _, b1, b2, _⟩ := hex_great b hb
  intro c hc
  unfold enc5 at hc
  split at hc
  · rename_i h
    obtain ⟨_, h1, h2, _⟩ := free_ok _ h
    rw [List.mem_singleton] at hc; subst hc
    exact ⟨h1, h2⟩
  · simp only [List.mem_cons, List.not_mem_nil, or_false] at hc
    rcases hc with rfl | rfl | rfl
    · decide
    · exact ⟨a1, a2⟩
    · exact ⟨b1, b2⟩
/-- A coded path has no question mark. -/
theorem coded_no63 : ∀ s p : List UInt8, codedL false s = some p → ∀ c ∈ p, c ≠ 63 := by
  refine coded_ind ?_ ?_ ?_ ?_ ?_
  · intro p h; simp only [codedL, Option.some.injEq] at h; subst h; simp
  · intro c r hc ih p h
    rw [coded_cons false c r hc] at h
    split at h
    · rename_i hk
      obtain ⟨p', hp, rfl⟩ := Option.map_eq_some_iff.1 h
      intro d hd
      rcases List.mem_cons.1 hd with rfl | hd
      · intro e; subst e; revert hk; decide
      · exact ih p' hp d hd
    · cases h
  · intro a b r ih p h
    rw [coded_hex] at h
    split at h
    · rename_i hk
      obtain ⟨p', hp, rfl⟩ := Option.map_eq_some_iff.1 h
      intro d hd
      rcases List.mem_append.1 hd with hd | hd
      · exact (enc_free a b hk.1 hk.2 d hd).2
      · exact ih p' hp d hd
    · cases h
  · intro p h; rw [coded_end1] at h; cases h
  · intro a p h; rw [coded_end2] at h; cases h
theorem coded_length (q : Bool) : ∀ s p : List UInt8, codedL q s = some p → p.length ≤ s.length := by
  refine coded_ind ?_ ?_ ?_ ?_ ?_
  · intro p h; simp only [codedL, Option.some.injEq] at h; subst h; simp
  · intro c r hc ih p h
    rw [coded_cons q c r hc] at h
    split at h
    · obtain ⟨p', hp, rfl⟩ := Option.map_eq_some_iff.1 h
      have := ih p' hp
      simp; omega
    · cases h
  · intro a b r ih p h
    rw [coded_hex] at h
    split at h
    · obtain ⟨p', hp, rfl⟩ := Option.map_eq_some_iff.1 h
      have := ih p' hp
      have he : (enc5 a b).length ≤ 3 := by unfold enc5; split <;> simp
      simp; omega
    · cases h
  · intro p h; rw [coded_end1] at h; cases h
  · intro a p h; rw [coded_end2] at h; cases h
/-- Cut at a slash, the parts are coded by themselves. -/
theorem coded_slash (q : Bool) (y : List UInt8) : ∀ x : List UInt8, codedL q (x ++ 47 :: y) = match codedL q x, codedL q y with
    | some a, some b => some (a ++ 47 :: b)
    | _, _ => none := by
  have h47 : okC q 47 = true := by cases q <;> decide
  refine coded_ind ?_ ?_ ?_ ?_ ?_
  · rw [List.nil_append, coded_cons q 47 y (by decide), if_pos h47, codedL]
    cases codedL q y <;> rfl
  · intro c r hc ih
    rw [List.cons_append, coded_cons q c _ hc, coded_cons q c r hc, ih]
    split
    · cases codedL q r <;> cases codedL q y <;> rfl
    · rfl
  · intro a b r ih
    simp only [List.cons_append]
    rw [coded_hex, coded_hex, ih]
    split
    · cases codedL q r <;> cases codedL q y <;> simp
    · rfl
  · simp only [List.cons_append, List.nil_append]
    rw [coded_end1]
    cases y with
    | nil => rw [coded_end2]
    | cons b y =>
      rw [coded_hex, if_neg]
      rintro ⟨h, _⟩
      exact (hex_great 47 h).2.2.2.2.2.2 rfl
  · intro a
    simp only [List.cons_append, List.nil_append]
    rw [coded_end2, coded_hex, if_neg]
    rintro ⟨_, h⟩
    exact (hex_great 47 h).2.2.2.2.2.2 rfl
def normQ (q : Bool) (p : List UInt8) : Prop := codedL q p = some p
theorem norm_slash {q : Bool} {x y : List UInt8} : normQ q (x ++ 47 :: y) ↔ normQ q x ∧ normQ q y := by
  unfold normQ
  rw [coded_slash]
  constructor
  · intro h
    cases hx : codedL q x with
    | none => rw [hx] at h; cases h
    | some a =>
      cases hy : codedL q y with
      | none => rw [hx, hy] at h; cases h
      | some b =>
        rw [hx, hy] at h
        simp only [Option.some.injEq] at h
        have l1 := coded_length q x a hx
        have l2 := coded_length q y b hy
        have hl := congrArg List.length h
        simp only [List.length_append, List.length_cons] at hl
        obtain ⟨e1, e2⟩ := List.append_inj h (by omega)
        simp only [List.cons.injEq, true_and] at e2
        rw [e1, e2]; exact ⟨rfl, rfl⟩
  · rintro ⟨hx, hy⟩
    rw [hx, hy]

/-! Segments. -/
def flat (l : List (List UInt8)) : List UInt8 := l.flatMap fun s => 47 :: s
def dots (s : List UInt8) : Bool := s == [46] || s == [46, 46]
def segGo : List (List UInt8) → List (List UInt8) → List (List UInt8)
  | [], out => out
  | s :: l, out =>
    let o := if s = [46, 46] then out.dropLast else out
    if dots s = true then (if l = [] then o ++ [[]] else segGo l o) else segGo l (o ++ [s])
/-- A path that begins with a slash, without dots. -/
def segL (p : List UInt8) : List UInt8 := flat (segGo (pieces 47 p).tail [])
def quietS (l : List (List UInt8)) : Prop := ∀ s ∈ l, dots s = false
theorem segGo_quiet : ∀ (l out : List (List UInt8)), quietS out → quietS (segGo l out) := by
  intro l
  induction l with
  | nil => intro out h; exact h
  | cons s l ih =>
    intro out h
    have ho : quietS (if s = [46, 46] then out.dropLast else out) := by
      split
      · intro x hx; exact h x ((List.dropLast_sublist out).subset hx)
      · exact h
    unfold segGo
    simp only
    split
    · split
      · intro x hx
        rcases List.mem_append.1 hx with hx | hx
        · exact ho x hx
        · rw [List.mem_singleton] at hx; subst hx; rfl
      · exact ih _ ho
    · rename_i hd
      refine ih _ fun x hx => ?_
      rcases List.mem_append.1 hx with hx | hx
      · exact ho x hx
      · rw [List.mem_singleton] at hx; subst hx; simpa using hd
theorem segGo_self : ∀ (l out : List (List UInt8)), quietS l → segGo l out = out ++ l := by
  intro l
  induction l with
  | nil => intro out _; simp [segGo]
  | cons s l ih =>
    intro out h
    have hs := h s (by simp)
    have hn : s ≠ [46, 46] := by intro e; subst e; revert hs; decide
    unfold segGo
    simp only
    rw [if_neg hn, if_neg (by simp [hs]), ih _ (fun x hx => h x (by simp [hx]))]
    simp
/-- What is in the result was there, or is empty. -/
theorem segGo_mem : ∀ (l out : List (List UInt8)) (x : List UInt8), x ∈ segGo l out → x ∈ l ∨ x ∈ out ∨ x = [] := by
  intro l
  induction l with
  | nil => intro out x h; exact .inr (.inl h)
  | cons s l ih =>
    intro out x h
    have ho : ∀ x, x ∈ (if s = [46, 46] then out.dropLast else out) → x ∈ out := by
      intro x hx
      split at hx
      · exact (List.dropLast_sublist out).subset hx
      · exact hx
    unfold segGo at h
    simp only at h
    split at h
    · split at h
      · rcases List.mem_append.1 h with h | h
        · exact .inr (.inl (ho x h))
        · exact .inr (.inr (List.mem_singleton.1 h))
      · rcases ih _ x h with h | h | h
        · exact .inl (by simp [h])
        · exact .inr (.inl (ho x h))
        · exact .inr (.inr h)
    · rcases ih _ x h with h | h | h
      · exact .inl (by simp [h])
      · rcases List.mem_append.1 h with h | h
        · exact .inr (.inl (ho x h))
        · exact .inl (by rw [List.mem_singleton.1 h]; simp)
      · exact .inr (.inr h)
theorem segGo_ne : ∀ (l out : List (List UInt8)), l ≠ [] → segGo l out ≠ [] := by
  intro l
  induction l with
  | nil => intro out h; exact absurd rfl h
  | cons s l ih =>
    intro out _
    unfold segGo
    simp only
    split
    · split
      · simp
      · rename_i hl; exact ih _ hl
    · by_cases hl : l = []
      · subst hl; simp [segGo]
      · exact ih _ hl
theorem pieces_flat : ∀ (l : List (List UInt8)) (x : List UInt8), (∀ s ∈ l, ∀ c ∈ s, c ≠ 47) → (∀ c ∈ x, c ≠ 47) → pieces 47 (x ++ flat l) = x :: l := by
  intro l
  induction l with
  | nil => intro x _ hx; rw [show x ++ flat [] = x by simp [flat]]; exact pieces_one hx
  | cons s l ih =>
    intro x h hx
    have e : x ++ flat (s :: l) = x ++ 47 :: (s ++ flat l) := by simp [flat]
    rw [e, pieces_cut hx, ih s (fun t ht => h t (by simp [ht])) (h s (by simp))]
theorem pieces_free (sep : UInt8) : ∀ (l : List UInt8), ∀ s ∈ pieces sep l, ∀ c ∈ s, c ≠ sep := by
  intro l
  induction l with
  | nil => intro s hs c hc; simp only [pieces, List.mem_singleton] at hs; subst hs; cases hc
  | cons d l ih =>
    intro s hs c hc
    unfold pieces at hs
    split at hs
    · rcases List.mem_cons.1 hs with rfl | hs
      · cases hc
      · exact ih s hs c hc
    · rename_i hd
      cases hp : pieces sep l with
      | nil => exact absurd hp (pieces_ne _ _)
      | cons p ps =>
        rw [hp] at hs ih
        simp only at hs
        rcases List.mem_cons.1 hs with rfl | hs
        · rcases List.mem_cons.1 hc with rfl | hc
          · exact hd
          · exact ih p (by simp) c hc
        · exact ih s (by simp [hs]) c hc
theorem pieces_join (sep : UInt8) : ∀ (l : List UInt8), ∃ p ps, pieces sep l = p :: ps ∧ l = p ++ ps.flatMap fun s => sep :: s := by
  intro l
  induction l with
  | nil => exact ⟨[], [], rfl, rfl⟩
  | cons d l ih =>
    obtain ⟨p, ps, h1, h2⟩ := ih
    unfold pieces
    split
    · rename_i hd
      exact ⟨[], p :: ps, by rw [h1], by rw [hd, List.flatMap_cons]; simp only [List.nil_append, List.cons_append]; rw [← h2]⟩
    · rw [h1]
      exact ⟨d :: p, ps, rfl, by rw [List.cons_append, ← h2]⟩
/-- A path that begins with a slash is its segments. -/
theorem path_flat {p : List UInt8} (h : p.head? = some 47) : ∃ l, l ≠ [] ∧ (pieces 47 p).tail = l ∧ p = flat l ∧ ∀ s ∈ l, ∀ c ∈ s, c ≠ 47 := by
  cases p with
  | nil => cases h
  | cons c r =>
    simp only [List.head?_cons, Option.some.injEq] at h
    subst h
    obtain ⟨q, qs, h1, h2⟩ := pieces_join 47 r
    have e : pieces 47 (47 :: r) = [] :: pieces 47 r := by conv => lhs; unfold pieces; rw [if_pos rfl]
    refine ⟨q :: qs, by simp, by rw [e, h1]; rfl, by rw [h2]; simp [flat], ?_⟩
    intro s hs
    exact pieces_free 47 r s (by rw [h1]; exact hs)
theorem flat_head {l : List (List UInt8)} (h : l ≠ []) : (flat l).head? = some 47 := by
  cases l with
  | nil => exact absurd rfl h
  | cons s l => rfl
theorem seg_head {p : List UInt8} (h : p.head? = some 47) : (segL p).head? = some 47 := by
  obtain ⟨l, h0, h1, _⟩ := path_flat h
  unfold segL
  rw [h1]
  exact flat_head (segGo_ne l [] h0)
/-- No segment of the result is dots. -/
theorem seg_parts {p : List UInt8} (h : p.head? = some 47) : ∃ l, l ≠ [] ∧ segL p = flat l ∧ quietS l ∧ ∀ s ∈ l, ∀ c ∈ s, c ≠ 47 := by
  obtain ⟨l, h0, h1, _, h2⟩ := path_flat h
  refine ⟨segGo l [], segGo_ne l [] h0, by unfold segL; rw [h1], segGo_quiet l [] (fun x hx => by cases hx), ?_⟩
  intro s hs c hc
  rcases segGo_mem l [] s hs with h | h | h
  · exact h2 s h c hc
  · cases h
  · subst h; cases hc
theorem seg_of_flat {l : List (List UInt8)} (hq : quietS l) (hs : ∀ s ∈ l, ∀ c ∈ s, c ≠ 47) : segL (flat l) = flat l := by
  unfold segL
  have := pieces_flat l [] hs (fun c hc => by cases hc)
  rw [List.nil_append] at this
  rw [this, List.tail_cons, segGo_self l [] hq]
  rfl
theorem seg_again {p : List UInt8} (h : p.head? = some 47) : segL (segL p) = segL p := by
  obtain ⟨l, _, h1, h2, h3⟩ := seg_parts h
  rw [h1]
  exact seg_of_flat h2 h3
theorem norm_flat {q : Bool} : ∀ {l : List (List UInt8)}, normQ q (flat l) ↔ ∀ s ∈ l, normQ q s := by
  intro l
  induction l with
  | nil => simp [flat, normQ, codedL]
  | cons s l ih =>
    have h0 : flat (s :: l) = [] ++ 47 :: (s ++ flat l) := by simp [flat]
    have hz : normQ q [] := by simp [normQ, codedL]
    rw [h0, norm_slash]
    cases l with
    | nil =>
      rw [show s ++ flat [] = s by simp [flat]]
      simp [hz]
    | cons t l =>
      have e : s ++ flat (t :: l) = s ++ 47 :: (t ++ flat l) := by simp [flat]
      rw [e, norm_slash]
      have h1 : flat (t :: l) = [] ++ 47 :: (t ++ flat l) := by simp [flat]
      rw [h1, norm_slash] at ih
      constructor
      · rintro ⟨_, hs, ht⟩ x hx
        rcases List.mem_cons.1 hx with rfl | hx
        · exact hs
        · exact ih.1 ⟨hz, ht⟩ x hx
      · intro h
        exact ⟨hz, h s (by simp), (ih.2 fun x hx => h x (by simp [hx])).2⟩
theorem norm_seg {p : List UInt8} (h : p.head? = some 47) (hn : normQ false p) : normQ false (segL p) := by
  obtain ⟨l, h0, h1, h2, h3⟩ := path_flat h
  have hl : ∀ s ∈ l, normQ false s := norm_flat.1 (by rw [← h2]; exact hn)
  unfold segL
  rw [h1]
  refine norm_flat.2 fun s hs => ?_
  rcases segGo_mem l [] s hs with h | h | h
  · exact hl s h
  · cases h
  · subst h; simp [normQ, codedL]
theorem flat_length_mem (l : List (List UInt8)) : (flat l).length = (l.map fun s => s.length + 1).sum := by
  induction l with
  | nil => rfl
  | cons s l ih => simp only [flat, List.flatMap_cons, List.length_append, List.length_cons, List.map_cons, List.sum_cons] at *; omega
theorem segGo_length : ∀ (l out : List (List UInt8)), (flat (segGo l out)).length ≤ (flat l).length + (flat out).length := by
  intro l
  induction l with
  | nil => intro out; simp [segGo]
  | cons s l ih =>
    intro out
    have ho : (flat (if s = [46, 46] then out.dropLast else out)).length ≤ (flat out).length := by
      split
      · rcases List.eq_nil_or_concat out with rfl | ⟨o, x, rfl⟩
        · simp
        · rw [List.concat_eq_append, List.dropLast_concat]; simp [flat]
      · exact Nat.le_refl _
    have e1 : (flat (s :: l)).length = s.length + 1 + (flat l).length := by simp [flat]; omega
    unfold segGo
    simp only
    split
    · rename_i hd
      have hs : 1 ≤ s.length := by
        cases s with
        | nil => revert hd; decide
        | cons _ _ => simp
      split
      · have : ∀ o : List (List UInt8), (flat (o ++ [[]])).length = (flat o).length + 1 := by intro o; simp [flat]
        rw [this]; omega
      · have := ih (if s = [46, 46] then out.dropLast else out)
        omega
    · have := ih ((if s = [46, 46] then out.dropLast else out) ++ [s])
      have e2 : ∀ o : List (List UInt8), (flat (o ++ [s])).length = (flat o).length + (s.length + 1) := by intro o; simp [flat]
      rw [e2] at this
      omega
theorem seg_length {p : List UInt8} (h : p.head? = some 47) : (segL p).length ≤ p.length := by
  obtain ⟨l, _, h1, h2, _⟩ := path_flat h
  unfold segL
  rw [h1]
  have := segGo_length l []
  rw [← h2] at this
  simpa [flat] using this

/-! A place: a path, and a query. -/
def placeL (s : List UInt8) : Option (List UInt8) :=
  match codedL false (s.takeWhile (· != 63)), codedL true ((s.dropWhile (· != 63)).drop 1) with
  | some p, some q =>
    if p ≠ [] ∧ p.head? ≠ some 47 then none
    else some (segL (if p = [] then [47] else p) ++ if 63 ∈ s then 63 :: q else [])
  | _, _ => none
theorem until_eq {d : UInt8} {x r : List UInt8} (h : ∀ c ∈ x, c ≠ d) : (x ++ d :: r).takeWhile (· != d) = x ∧ (x ++ d :: r).dropWhile (· != d) = d :: r := by
  induction x with
  | nil => simp
  | cons c x ih =>
    have h1 : c ≠ d := h c (by simp)
    have h2 := ih fun e he => h e (by simp [he])
    simp [h1, h2.1, h2.2]
theorem until_all {d : UInt8} {x : List UInt8} (h : ∀ c ∈ x, c ≠ d) : x.takeWhile (· != d) = x ∧ x.dropWhile (· != d) = [] := by
  induction x with
  | nil => simp
  | cons c x ih =>
    have h1 : c ≠ d := h c (by simp)
    have h2 := ih fun e he => h e (by simp [he])
    simp [h1, h2.1, h2.2]
/-- A place made normal: it begins with a slash, has no dots, and is its own place. -/
structure Normal (p : List UInt8) : Prop where
  head : p.head? = some 47
  self : placeL p = some p
theorem place_normal {s r : List UInt8} (h : placeL s = some r) : Normal r := by
  unfold placeL at h
  cases hp : codedL false (s.takeWhile (· != 63)) with
  | none => rw [hp] at h; cases h
  | some p =>
    cases hq : codedL true ((s.dropWhile (· != 63)).drop 1) with
    | none => rw [hp, hq] at h; cases h
    | some q =>
      rw [hp, hq] at h
      simp only at h
      split at h
      · cases h
      · rename_i hc
        simp only [Option.some.injEq] at h
        obtain ⟨P, hP⟩ : ∃ P, (if p = [] then [47] else p) = P := ⟨_, rfl⟩
        have hP1 : P.head? = some 47 := by
          rw [← hP]
          split
          · rfl
          · rename_i h0
            rcases Classical.em (p.head? = some 47) with h1 | h1
            · exact h1
            · exact absurd ⟨h0, h1⟩ hc
        have hP2 : normQ false P := by
          rw [← hP]
          split
          · simp [normQ, codedL]; decide
          · exact coded_again false _ _ hp
        rw [hP] at h
        have hS1 := seg_head hP1
        have hS2 := norm_seg hP1 hP2
        have hS3 := seg_again hP1
        have hS4 : ∀ c ∈ segL P, c ≠ 63 := coded_no63 _ _ hS2
        have hne : segL P ≠ [] := by intro e; rw [e] at hS1; cases hS1
        have hqq := coded_again true _ _ hq
        subst h
        by_cases hm : 63 ∈ s
        · rw [if_pos hm]
          constructor
          · cases hs : segL P with
            | nil => exact absurd hs hne
            | cons c r => rw [hs] at hS1; simpa using hS1
          · obtain ⟨e1, e2⟩ := until_eq (r := q) hS4
            unfold placeL
            rw [e1, e2]
            simp only [List.drop_succ_cons, List.drop_zero]
            rw [hS2, hqq]
            simp only
            rw [if_neg (by simp [hS1]), if_neg hne, hS3, if_pos (by simp)]
        · rw [if_neg hm, List.append_nil]
          constructor
          · exact hS1
          · obtain ⟨e1, e2⟩ := until_all hS4
            unfold placeL
            rw [e1, e2]
            simp only [List.drop_nil]
            rw [hS2]
            simp only [codedL]
            rw [if_neg (by simp [hS1]), if_neg hne, hS3, if_neg (fun hm => hS4 63 hm rfl), List.append_nil]
theorem place_length {s r : List UInt8} (h : placeL s = some r) : r.length ≤ s.length + 1 := by
  unfold placeL at h
  cases hp : codedL false (s.takeWhile (· != 63)) with
  | none => rw [hp] at h; cases h
  | some p =>
    cases hq : codedL true ((s.dropWhile (· != 63)).drop 1) with
    | none => rw [hp, hq] at h; cases h
    | some q =>
      rw [hp, hq] at h
      simp only at h
      split at h
      · cases h
      · rename_i hc
        simp only [Option.some.injEq] at h
        have l1 := coded_length false _ _ hp
        have l2 := coded_length true _ _ hq
        have l3 := congrArg List.length (List.takeWhile_append_dropWhile (p := (· != 63)) (l := s))
        rw [List.length_append] at l3
        rw [List.length_drop] at l2
        have hP : (if p = [] then [47] else p).head? = some 47 := by
          split
          · rfl
          · rename_i h0
            rcases Classical.em (p.head? = some 47) with h1 | h1
            · exact h1
            · exact absurd ⟨h0, h1⟩ hc
        have l4 := seg_length hP
        have l5 : (if p = [] then [47] else p).length ≤ p.length + 1 := by split <;> simp
        rw [← h, List.length_append]
        by_cases h63 : 63 ∈ s
        · rw [if_pos h63]
          have : 1 ≤ (s.dropWhile (· != 63)).length := by
            obtain ⟨a, b, rfl, ha⟩ := List.eq_append_cons_of_mem h63
            rw [(until_eq (d := 63) (x := a) (r := b) (fun x hx e => ha (e ▸ hx))).2]; simp
          have l6 : p = [] ∨ (if p = [] then [47] else p).length = p.length := by
            by_cases h0 : p = []
            · exact .inl h0
            · exact .inr (by rw [if_neg h0])
          simp only [List.length_cons]
          omega
        · rw [if_neg h63]
          simp only [List.length_nil]; omega
end IH
