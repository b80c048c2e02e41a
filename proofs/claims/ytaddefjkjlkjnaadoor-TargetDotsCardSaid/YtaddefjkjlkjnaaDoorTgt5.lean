/- Layer 5 in plain Lean, further: digits, hosts cut, and the steps of the loops. No program in sight; no condition. -/
import Derived.Test.YtaddefjkjlkjnaaDoorTgt4
namespace IH
set_option maxRecDepth 100000
theorem hex1 (c : UInt8) : numR 16 15 [c] = if isHex c = true then ((dig c : Int), 0) else (0, 10) := by
  have := all_bytes (fun c => numR 16 15 [c] == if isHex c = true then ((dig c : Int), 0) else (0, 10)) (by decide +kernel) c
  exact eq_of_beq this
theorem hex2 (a b : UInt8) : numR 16 255 [a, b] = if isHex a = true ∧ isHex b = true then (((dig a * 16 + dig b : Nat) : Int), 0) else (0, 10) := by
  unfold numR isHex badDig
  rw [if_neg (by simp)]
  by_cases ha : dig a < 16
  · by_cases hb : dig b < 16
    · have h : ([a, b].any fun c => decide (16 ≤ dig c)) = false := by simp; omega
      rw [h, if_neg (by simp), if_neg (by omega), if_pos (by simp [ha, hb])]
      unfold accN
      rw [if_neg (by omega)]
      unfold accN
      rw [if_neg (by omega)]
      unfold accN
      simp [accR]
    · have h : ([a, b].any fun c => decide (16 ≤ dig c)) = true := by simp; omega
      rw [h, if_pos rfl, if_neg (by simp [hb])]
  · have h : ([a, b].any fun c => decide (16 ≤ dig c)) = true := by simp; omega
    rw [h, if_pos rfl, if_neg (by simp [ha])]
theorem dig_lt (c : UInt8) (h : isHex c = true) : dig c < 16 := by simpa [isHex] using h
def bigDigs : List UInt8 := [48, 49, 50, 51, 52, 53, 54, 55, 56, 57, 65, 66, 67, 68, 69, 70]
theorem big_dig (c : UInt8) (h : isHex c = true) : bigDigs[dig c]? = some (greatC c) := by
  have := all_bytes (fun c => !isHex c || bigDigs[dig c]? == some (greatC c)) (by decide +kernel) c
  simp only [h, Bool.not_true, Bool.false_or, beq_iff_eq] at this
  exact this
theorem great_nat (c : UInt8) : ((greatC c).toNat : Int) = if (97 : Int) ≤ c.toNat then (c.toNat : Int) - 32 else c.toNat := by
  have := all_bytes (fun c => ((greatC c).toNat : Int) == if (97 : Int) ≤ c.toNat then (c.toNat : Int) - 32 else c.toNat) (by decide +kernel) c
  exact eq_of_beq this
theorem split_cases (s : List UInt8) : (∃ h t, s = h ++ 58 :: t ∧ ∀ c ∈ t, unmark c = true) ∨ (∃ h t, s = h ++ 93 :: t ∧ ∀ c ∈ t, unmark c = true) ∨ ∀ c ∈ s, unmark c = true := by
  induction s with
  | nil => exact .inr (.inr (by simp))
  | cons c s ih =>
    rcases ih with ⟨h, t, rfl, ht⟩ | ⟨h, t, rfl, ht⟩ | hs
    · exact .inl ⟨c :: h, t, rfl, ht⟩
    · exact .inr (.inl ⟨c :: h, t, rfl, ht⟩)
    · by_cases h1 : c = 58
      · subst h1; exact .inl ⟨[], s, rfl, hs⟩
      · by_cases h2 : c = 93
        · subst h2; exact .inr (.inl ⟨[], s, rfl, hs⟩)
        · refine .inr (.inr fun x hx => ?_)
          rcases List.mem_cons.1 hx with rfl | hx
          · simp [unmark, h1, h2]
          · exact hs x hx
theorem unmark_ne {c : UInt8} (h : unmark c = true) : c ≠ 58 ∧ c ≠ 93 := by simpa [unmark] using h
/-- Octets of some texts, and letters and digits. -/
def ofL (L : List (List UInt8)) (c : UInt8) : Bool := isLetter c || L.any (·.contains c)
def freeT : List UInt8 := [45, 46, 95, 126]
def moreT : List UInt8 := [58, 64, 47]
theorem of_free (c : UInt8) : ofL [freeT] c = free5 c := by
  have := all_bytes (fun c => ofL [freeT] c == free5 c) (by decide +kernel) c
  exact eq_of_beq this
theorem of_host (c : UInt8) : ofL [freeT, subs5] c = hostC c := by
  have := all_bytes (fun c => ofL [freeT, subs5] c == hostC c) (by decide +kernel) c
  exact eq_of_beq this
theorem of_path (c : UInt8) : ofL [freeT, subs5, moreT, []] c = okC false c := by
  have := all_bytes (fun c => ofL [freeT, subs5, moreT, []] c == okC false c) (by decide +kernel) c
  exact eq_of_beq this
theorem of_query (c : UInt8) : ofL [freeT, subs5, moreT, [63]] c = okC true c := by
  have := all_bytes (fun c => ofL [freeT, subs5, moreT, [63]] c == okC true c) (by decide +kernel) c
  exact eq_of_beq this
theorem of_coded (q : Bool) (c : UInt8) : ofL [freeT, subs5, moreT, if q then [63] else []] c = okC q c := by
  cases q
  · exact of_path c
  · exact of_query c
/-- What is left to code, behind what is coded. -/
def codedR (q : Bool) (P r : List UInt8) : Option (List UInt8) := (codedL q r).map (P ++ ·)
theorem codedR_nil (q : Bool) (P : List UInt8) : codedR q P [] = some P := by simp [codedR, codedL]
theorem codedR_ok (q : Bool) (P r : List UInt8) (c : UInt8) (hc : c ≠ 37) (h : okC q c = true) : codedR q P (c :: r) = codedR q (P ++ [c]) r := by
  unfold codedR
  rw [coded_cons q c r hc, if_pos h, Option.map_map]
  congr 1
  funext x
  simp
theorem codedR_no (q : Bool) (P r : List UInt8) (c : UInt8) (hc : c ≠ 37) (h : okC q c = false) : codedR q P (c :: r) = none := by
  unfold codedR
  rw [coded_cons q c r hc, if_neg (by simp [h])]
  rfl
theorem codedR_hex (q : Bool) (P r : List UInt8) (a b : UInt8) (ha : isHex a = true) (hb : isHex b = true) : codedR q P (37 :: a :: b :: r) = codedR q (P ++ enc5 a b) r := by
  unfold codedR
  rw [coded_hex, if_pos ⟨ha, hb⟩, Option.map_map]
  congr 1
  funext x
  simp
theorem codedR_nohex (q : Bool) (P r : List UInt8) (a b : UInt8) (h : ¬ (isHex a = true ∧ isHex b = true)) : codedR q P (37 :: a :: b :: r) = none := by
  unfold codedR
  rw [coded_hex, if_neg h]
  rfl
theorem codedR_short (q : Bool) (P r : List UInt8) (h : r.length < 2) : codedR q P (37 :: r) = none := by
  unfold codedR
  match r, h with
  | [], _ => rw [coded_end1]; rfl
  | [a], _ => rw [coded_end2]; rfl
theorem enc_length (a b : UInt8) : (enc5 a b).length ≤ 3 := by unfold enc5; split <;> simp
/-! Segments. -/
theorem flat_snoc (l : List (List UInt8)) (s : List UInt8) : flat (l ++ [s]) = flat l ++ 47 :: s := by simp [flat]
theorem flat_cons (s : List UInt8) (l : List (List UInt8)) : flat (s :: l) = 47 :: (s ++ flat l) := by simp [flat]
theorem flat_nil {l : List (List UInt8)} (h : flat l = []) : l = [] := by
  cases l with
  | nil => rfl
  | cons s l => rw [flat_cons] at h; cases h
theorem flat_join (l : List (List UInt8)) (h : l ≠ []) : flat l = 47 :: ([47] : List UInt8).intercalate l := by
  induction l with
  | nil => exact absurd rfl h
  | cons s l ih =>
    cases l with
    | nil => simp [flat, List.intercalate]
    | cons t l =>
      rw [flat_cons, ih (by simp)]
      simp [List.intercalate]
theorem seg_dots (s : List UInt8) (l out : List (List UInt8)) (h : dots s = true) : segGo (s :: l) out = if l = [] then (if s = [46, 46] then out.dropLast else out) ++ [[]] else segGo l (if s = [46, 46] then out.dropLast else out) := by
  conv => lhs; unfold segGo
  simp only
  rw [if_pos h]
theorem seg_word (s : List UInt8) (l out : List (List UInt8)) (h : dots s = false) : segGo (s :: l) out = segGo l (out ++ [s]) := by
  have hn : s ≠ [46, 46] := by intro e; subst e; revert h; decide
  conv => lhs; unfold segGo
  simp only
  rw [if_neg (by simp [h]), if_neg hn]
end IH
