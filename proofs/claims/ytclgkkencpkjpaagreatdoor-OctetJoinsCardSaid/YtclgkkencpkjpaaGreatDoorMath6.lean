/- Layer 1 in plain Lean: texts between quotation marks say themselves; lists put together are split again. No program in sight; no condition. -/
import Derived.Test.YtclgkkencpkjpaaGreatDoorPm
namespace IH
set_option maxRecDepth 100000

/-- An octet, within quotation marks. -/
def escQ (c : UInt8) : List UInt8 := if c = 34 ∨ c = 92 then [92, c] else [c]
def quoteL (s : List UInt8) : List UInt8 := 34 :: (s.flatMap escQ ++ [34])
/-- Its text; the error. -/
def quoteR (s : List UInt8) : List UInt8 × Int := if allOf isPlain s = true then (quoteL s, 0) else ([], 10)
theorem unq_esc (s tail : List UInt8) (h : allOf isPlain s = true) : ∀ (acc : List UInt8) (k : Nat), unqF acc k (s.flatMap escQ ++ 34 :: tail) = (acc ++ s, (k : Int) + (s.flatMap escQ).length + 1, 0) := by
  induction s with
  | nil => intro acc k; rw [List.flatMap_nil, List.nil_append, unqF_end]; simp
  | cons c s ih =>
    intro acc k
    simp only [allOf, List.all_cons, Bool.and_eq_true] at h
    have h2 := ih h.2
    rw [List.flatMap_cons, List.append_assoc]
    unfold escQ
    by_cases hc : c = 34 ∨ c = 92
    · rw [if_pos hc]
      simp only [List.cons_append, List.nil_append]
      rw [unqF_esc, if_pos h.1]
      have := h2 (acc ++ [c]) (k + 2)
      unfold escQ at this
      rw [this]
      simp
      omega
    · rw [if_neg hc]
      simp only [List.cons_append, List.nil_append]
      rw [unqF_plain _ _ _ _ (fun e => hc (.inl e)) (fun e => hc (.inr e)), if_pos h.1]
      have := h2 (acc ++ [c]) (k + 1)
      unfold escQ at this
      rw [this]
      simp
      omega
/-- What was quoted says itself, whatever stands behind. -/
theorem unquote_quote (s tail : List UInt8) (h : allOf isPlain s = true) : unquote (quoteL s ++ tail) = (s, ((quoteL s).length : Int), 0) := by
  have := unq_esc s tail h [] 1
  unfold unquote quoteL
  simp only [List.cons_append, List.append_assoc, if_true, List.nil_append]
  rw [this]
  simp
  omega

/-! Lists. -/
/-- A token, or quoted: it is one piece. -/
def pieceQ (x : List UInt8) : List UInt8 := if token x = true then x else quoteL x
/-- No comma outside of quotation marks. -/
def whole1 (x : List UInt8) : Prop := ∀ (cur r : List UInt8), walk cur false false (x ++ r) = walk (cur ++ x) false false r
theorem token_whole {x : List UInt8} (h : token x = true) : whole1 x := by
  simp only [token, Bool.and_eq_true] at h
  have ht := h.2
  intro cur r
  clear h
  induction x generalizing cur with
  | nil => simp
  | cons c x ih =>
    simp only [allOf, List.all_cons, Bool.and_eq_true] at ht
    have h1 : c ≠ 44 ∧ c ≠ 34 := by
      constructor <;> (intro e; subst e; have := ht.1; revert this; decide)
    rw [List.cons_append, walk_cons, if_neg (fun h => h1.1 h.1)]
    simp only [Bool.false_eq_true, if_false, h1.2, Bool.and_false]
    rw [ih ht.2]
    simp
theorem quote_whole (s : List UInt8) : whole1 (quoteL s) := by
  have key : ∀ (s cur r : List UInt8), walk cur true false (s.flatMap escQ ++ 34 :: r) = walk (cur ++ s.flatMap escQ ++ [34]) false false r := by
    intro s
    induction s with
    | nil =>
      intro cur r
      rw [List.flatMap_nil, List.nil_append, walk_cons]
      simp
    | cons c s ih =>
      intro cur r
      rw [List.flatMap_cons, List.append_assoc]
      unfold escQ
      by_cases hc : c = 34 ∨ c = 92
      · rw [if_pos hc]
        simp only [List.cons_append, List.nil_append]
        rw [walk_cons, if_neg (by simp)]
        simp only [Bool.false_eq_true, if_false]
        have e1 : ((92 : UInt8) = 34) = False := by simp
        simp only [e1, if_false, decide_true, Bool.and_true]
        rw [walk_cons, if_neg (by simp)]
        simp only [if_true]
        have := ih (cur ++ [92] ++ [c]) r
        unfold escQ at this
        rw [this]
        simp
      · rw [if_neg hc]
        simp only [List.cons_append, List.nil_append]
        have h34 : c ≠ 34 := fun e => hc (.inl e)
        have h92 : c ≠ 92 := fun e => hc (.inr e)
        rw [walk_cons, if_neg (by simp)]
        simp only [Bool.false_eq_true, if_false, h34, h92, decide_false, Bool.false_and]
        have := ih (cur ++ [c]) r
        unfold escQ at this
        rw [this]
        simp
  intro cur r
  unfold quoteL
  rw [List.cons_append, walk_cons, if_neg (by simp)]
  simp only [Bool.false_eq_true, if_false, if_true, Bool.not_false]
  have e1 : decide ((34 : UInt8) = 92) = false := by decide
  rw [e1, Bool.false_and, List.append_assoc, List.cons_append, List.nil_append, key]
  simp
theorem piece_whole (x : List UInt8) : whole1 (pieceQ x) := by
  unfold pieceQ
  split
  · rename_i h; exact token_whole h
  · exact quote_whole x
theorem ends_trim {x : List UInt8} (h1 : ∀ c, x.head? = some c → isBlank c = false) (h2 : ∀ c, x.getLast? = some c → isBlank c = false) : trim x = x := trim_self.2 ⟨h1, h2⟩
theorem tchar_sharp {c : UInt8} (h : isTchar c = true) : isBlank c = false := by
  have := all_bytes (fun c => !isTchar c || !isBlank c) (by decide +kernel) c
  simpa [h] using this
theorem piece_trim (x : List UInt8) : trim (pieceQ x) = pieceQ x ∧ pieceQ x ≠ [] := by
  unfold pieceQ
  split
  · rename_i h
    simp only [token, Bool.and_eq_true, Bool.not_eq_true', List.isEmpty_eq_false_iff] at h
    refine ⟨ends_trim ?_ ?_, h.1⟩
    · intro c hc
      exact tchar_sharp (List.all_eq_true.1 h.2 c (List.mem_of_mem_head? hc))
    · intro c hc
      exact tchar_sharp (List.all_eq_true.1 h.2 c (List.mem_of_getLast? hc))
  · refine ⟨ends_trim ?_ ?_, by simp [quoteL]⟩
    · intro c hc
      simp only [quoteL, List.head?_cons, Option.some.injEq] at hc
      subst hc; decide
    · intro c hc
      have : (quoteL x).getLast? = some 34 := by
        have e : quoteL x = (34 :: x.flatMap escQ) ++ [34] := rfl
        rw [e, List.getLast?_append]; rfl
      rw [this, Option.some.injEq] at hc
      subst hc; decide
theorem trim_pads {b b' x : List UInt8} (hb : ∀ c ∈ b, isBlank c = true) (hb' : ∀ c ∈ b', isBlank c = true) : trim (b ++ x ++ b') = trim x := by
  unfold trim
  rw [trimR_allBlank hb', ← trim_comm, ← trim_comm, trimL_allBlank hb]
theorem emit_piece (x : List UInt8) {b b' : List UInt8} (hb : ∀ c ∈ b, isBlank c = true) (hb' : ∀ c ∈ b', isBlank c = true) : emit (b ++ pieceQ x ++ b') = [pieceQ x] := by
  obtain ⟨h1, h2⟩ := piece_trim x
  unfold emit
  rw [trim_pads hb hb', h1, if_neg h2]
theorem emit_blank {b : List UInt8} (hb : ∀ c ∈ b, isBlank c = true) : emit b = [] := by
  unfold emit
  have : trim b = [] := by
    have := trim_pads (b := b) (b' := []) (x := []) hb (by simp)
    rw [List.append_nil, List.append_nil] at this
    rw [this]; rfl
  rw [if_pos this]
theorem walk_blank {b : List UInt8} (hb : ∀ c ∈ b, isBlank c = true) (cur r : List UInt8) : walk cur false false (b ++ r) = walk (cur ++ b) false false r := by
  induction b generalizing cur with
  | nil => simp
  | cons c b ih =>
    have hc := hb c (by simp)
    have h1 : c ≠ 44 ∧ c ≠ 34 := by
      constructor <;> (intro e; subst e; revert hc; decide)
    rw [List.cons_append, walk_cons, if_neg (fun h => h1.1 h.1)]
    simp only [Bool.false_eq_true, if_false, h1.2, Bool.and_false]
    rw [ih fun d hd => hb d (by simp [hd])]
    simp
theorem walk_cut (cur r : List UInt8) : walk cur false false (44 :: r) = emit cur ++ walk [] false false r := by
  rw [walk_cons, if_pos ⟨rfl, rfl⟩]
/-- "x ,\t, " -/
def frontQ (xs : List (List UInt8)) : List UInt8 := xs.flatMap fun x => pieceQ x ++ [32, 44, 9, 44, 32]
/-- ", x" -/
def behindQ (xs : List (List UInt8)) : List UInt8 := xs.flatMap fun x => [44, 32] ++ pieceQ x
theorem walk_front : ∀ (xs : List (List UInt8)) (cur r : List UInt8), (∀ c ∈ cur, isBlank c = true) → ∃ cur', (∀ c ∈ cur', isBlank c = true) ∧ walk cur false false (frontQ xs ++ r) = xs.map pieceQ ++ walk cur' false false r := by
  intro xs
  induction xs with
  | nil => intro cur r h; exact ⟨cur, h, by simp [frontQ]⟩
  | cons x xs ih =>
    intro cur r h
    obtain ⟨cur', h1, h2⟩ := ih [32] r (by simp; decide)
    refine ⟨cur', h1, ?_⟩
    have e : frontQ (x :: xs) ++ r = pieceQ x ++ ([32] ++ 44 :: ([9] ++ 44 :: ([32] ++ (frontQ xs ++ r)))) := by simp [frontQ]
    rw [e, piece_whole x, walk_blank (by simp; decide), walk_cut, walk_blank (by simp; decide), walk_cut, walk_blank (by simp; decide), emit_piece x h (by simp; decide), List.nil_append, emit_blank (by simp; decide), List.nil_append, List.nil_append, h2]
    simp
theorem walk_behind : ∀ (xs : List (List UInt8)) (cur : List UInt8), walk cur false false (behindQ xs) = emit cur ++ xs.map pieceQ := by
  intro xs
  induction xs with
  | nil => intro cur; simp [behindQ, walk]
  | cons x xs ih =>
    intro cur
    have e : behindQ (x :: xs) = 44 :: ([32] ++ (pieceQ x ++ behindQ xs)) := by simp [behindQ]
    rw [e, walk_cut, walk_blank (by simp; decide), piece_whole x, ih]
    have := emit_piece x (b := [32]) (b' := []) (by simp; decide) (by simp)
    rw [List.append_nil] at this
    rw [List.nil_append, this]
    simp
/-- Put together, they are split again: in one text, or in two. -/
theorem joins_one (xs ys : List (List UInt8)) : splitL [frontQ xs ++ behindQ ys] = (xs ++ ys).map pieceQ := by
  obtain ⟨cur, h1, h2⟩ := walk_front xs [] (behindQ ys) (by simp)
  simp only [splitL, List.flatMap_cons, List.flatMap_nil, List.append_nil]
  rw [← walk_split, h2, walk_behind, emit_blank h1]
  simp
theorem joins_two (xs ys : List (List UInt8)) : splitL [frontQ xs, behindQ ys] = (xs ++ ys).map pieceQ := by
  obtain ⟨cur, h1, h2⟩ := walk_front xs [] [] (by simp)
  rw [List.append_nil] at h2
  have h3 : walk cur false false [] = [] := emit_blank h1
  simp only [splitL, List.flatMap_cons, List.flatMap_nil, List.append_nil]
  rw [← walk_split, ← walk_split, h2, h3, walk_behind, emit_blank (b := []) (by simp)]
  simp
end IH
