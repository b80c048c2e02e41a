/- Layer 5 in plain Lean: the document's examples. No condition. -/
import Derived.Test.YtaddefjkjlkjnaaDoorTgt3
namespace IH
set_option maxRecDepth 100000

/-- Made normal, by steps that can be counted. -/
def codedF (q : Bool) : Nat → List UInt8 → Option (List UInt8)
  | 0, _ => none
  | _ + 1, [] => some []
  | f + 1, c :: r =>
    if c = 37 then match r with
      | a :: b :: t => if isHex a = true ∧ isHex b = true then (codedF q f t).map (enc5 a b ++ ·) else none
      | _ => none
    else if okC q c = true then (codedF q f r).map (c :: ·) else none
theorem codedF_eq (q : Bool) : ∀ (l : List UInt8), ∀ f, l.length < f → codedF q f l = codedL q l := by
  refine coded_ind ?_ ?_ ?_ ?_ ?_
  · intro f hf
    cases f with
    | zero => simp at hf
    | succ f => simp [codedF, codedL]
  · intro c r hc ih f hf
    cases f with
    | zero => simp at hf
    | succ f =>
      rw [coded_cons q c r hc, ← ih f (by simp at hf; omega)]
      simp [codedF, hc]
  · intro a b r ih f hf
    cases f with
    | zero => simp at hf
    | succ f =>
      rw [coded_hex, ← ih f (by simp at hf; omega)]
      simp [codedF]
  · intro f hf
    cases f with
    | zero => simp at hf
    | succ f => rw [coded_end1]; simp [codedF]
  · intro a f hf
    cases f with
    | zero => simp at hf
    | succ f => rw [coded_end2]; simp [codedF]
def placeF (s : List UInt8) : Option (List UInt8) :=
  match codedF false (s.length + 1) (s.takeWhile (· != 63)), codedF true (s.length + 1) ((s.dropWhile (· != 63)).drop 1) with
  | some p, some q =>
    if p ≠ [] ∧ p.head? ≠ some 47 then none
    else some (segL (if p = [] then [47] else p) ++ if 63 ∈ s then 63 :: q else [])
  | _, _ => none
theorem placeF_eq (s : List UInt8) : placeF s = placeL s := by
  have h1 := (List.takeWhile_prefix (p := (· != 63)) (l := s)).length_le
  have h2 := (List.dropWhile_suffix (p := (· != 63)) (l := s)).length_le
  unfold placeF placeL
  rw [codedF_eq false _ _ (by omega), codedF_eq true _ _ (by rw [List.length_drop]; omega)]
  rfl
/-- "HTTP://A.b:080/x/./y/../%7Ez?q=%2f" -/
def ex5 : List UInt8 := [72, 84, 84, 80, 58, 47, 47, 65, 46, 98, 58, 48, 56, 48, 47, 120, 47, 46, 47, 121, 47, 46, 46, 47, 37, 55, 69, 122, 63, 113, 61, 37, 50, 102]
/-- "a.b", 80, "/x/~z?q=%2F" -/
def ex5U : Uri := ⟨[97, 46, 98], 80, [47, 120, 47, 126, 122, 63, 113, 61, 37, 50, 70]⟩
theorem ex5_parse : parseU ex5 = (ex5U, 0) := by
  have h1 : seatL ((ex5.drop 7).takeWhile offC) = some ([97, 46, 98], 80) := by decide +kernel
  have h2 : placeL ((ex5.drop 7).dropWhile offC) = some [47, 120, 47, 126, 122, 63, 113, 61, 37, 50, 70] := by rw [← placeF_eq]; decide +kernel
  unfold parseU
  rw [if_neg (by decide), if_pos (by decide +kernel), h1, h2]
  rfl
/-- "../w" leads to "/w". -/
theorem ex5_resolve : resolveU ex5U [46, 46, 47, 119] = (⟨[97, 46, 98], 80, [47, 119]⟩, 0) := by
  have hb : parseU (printU ex5U) = (ex5U, 0) := back_parse (by decide) ex5_parse
  have h2 : placeL (upSlash (ex5U.path.takeWhile (· != 63)) ++ [46, 46, 47, 119]) = some [47, 119] := by rw [← placeF_eq]; decide +kernel
  unfold resolveU
  rw [if_neg (by rw [hb]; simp), if_neg (by decide), if_neg (by simp), if_neg (by decide), if_neg (by decide), if_neg (by decide), if_neg (by decide), if_neg (by decide), h2]
  rfl
end IH
