/- Layer 1 in plain Lean: lists of texts, cut at commas outside of quotation marks; by the code's way and by the document's. No program in sight; no condition. -/
import Derived.Test.YtpmidmdodjgeeaaDoorMath1
namespace IH

/-- Where the first comma stands outside of quotation marks; the length, if there is none. -/
def comma : Bool → Bool → List UInt8 → Nat
  | _, _, [] => 0
  | ins, skip, c :: r =>
    if c = 44 ∧ ins = false then 0
    else if skip then 1 + comma ins false r
    else if c = 34 then 1 + comma (!ins) false r
    else if c = 92 ∧ ins = true then 1 + comma ins true r
    else 1 + comma ins false r

def emit (x : List UInt8) : List (List UInt8) := if trim x = [] then [] else [trim x]
def splitF : Nat → List UInt8 → List (List UInt8)
  | 0, _ => []
  | f + 1, l => if l = [] then [] else emit (l.take (comma false false l)) ++ splitF f (l.drop (comma false false l + 1))
def split1 (l : List UInt8) : List (List UInt8) := splitF l.length l
def splitL (L : List (List UInt8)) : List (List UInt8) := L.flatMap split1

theorem comma_le (ins skip : Bool) (l : List UInt8) : comma ins skip l ≤ l.length := by
  induction l generalizing ins skip with
  | nil => simp [comma]
  | cons c r ih =>
    unfold comma
    split
    · simp
    · split
      · have := ih ins false; simp; omega
      · split
        · have := ih (!ins) false; simp; omega
        · split
          · have := ih ins true; simp; omega
          · have := ih ins false; simp; omega

theorem emit_length (x : List UInt8) : (emit x).length ≤ x.length := by
  unfold emit
  split
  · simp
  · rename_i h
    have h1 := trim_length x
    have : (trim x).length ≠ 0 := by simpa using h
    simp; omega

theorem splitF_length (f : Nat) (l : List UInt8) : (splitF f l).length ≤ l.length := by
  induction f generalizing l with
  | zero => simp [splitF]
  | succ f ih =>
    unfold splitF
    split
    · simp
    · have h1 := ih (l.drop (comma false false l + 1))
      have h2 := emit_length (l.take (comma false false l))
      have h3 := comma_le false false l
      simp only [List.length_append, List.length_drop, List.length_take] at *
      omega

theorem splitF_more (f g : Nat) (l : List UInt8) (h : l.length ≤ f) (h' : l.length ≤ g) : splitF f l = splitF g l := by
  induction f generalizing g l with
  | zero =>
    have : l = [] := List.eq_nil_of_length_eq_zero (by omega)
    subst this
    cases g <;> simp [splitF]
  | succ f ih =>
    cases g with
    | zero =>
      have : l = [] := List.eq_nil_of_length_eq_zero (by omega)
      subst this
      simp [splitF]
    | succ g =>
      unfold splitF
      split
      · rfl
      · rename_i hl
        have h0 : 0 < l.length := List.length_pos_iff.2 hl
        rw [ih g (l.drop (comma false false l + 1)) (by rw [List.length_drop]; omega) (by rw [List.length_drop]; omega)]

theorem split1_step (l : List UInt8) (h : l ≠ []) : split1 l = emit (l.take (comma false false l)) ++ split1 (l.drop (comma false false l + 1)) := by
  have h0 : 0 < l.length := List.length_pos_iff.2 h
  unfold split1
  rw [splitF_more l.length (l.length - 1 + 1) l (by omega) (by omega)]
  conv => lhs; unfold splitF
  rw [if_neg h, splitF_more (l.length - 1) (l.drop (comma false false l + 1)).length _ (by rw [List.length_drop]; omega) (Nat.le_refl _)]
theorem split1_nil : split1 [] = [] := rfl
theorem split1_length (l : List UInt8) : (split1 l).length ≤ l.length := splitF_length _ _
theorem splitL_length (L : List (List UInt8)) : (splitL L).length ≤ (L.map List.length).sum := by
  induction L with
  | nil => simp [splitL]
  | cons l L ih =>
    have := split1_length l
    simp only [splitL, List.flatMap_cons, List.length_append, List.map_cons, List.sum_cons] at *
    omega

/-- The document's way: octet by octet. cur: what stands since the last cut. -/
def walk : List UInt8 → Bool → Bool → List UInt8 → List (List UInt8)
  | cur, _, _, [] => emit cur
  | cur, ins, skip, c :: r =>
    if c = 44 ∧ ins = false then emit cur ++ walk [] ins skip r
    else if skip then walk (cur ++ [c]) ins false r
    else walk (cur ++ [c]) (if c = 34 then !ins else ins) (decide (c = 92) && (if c = 34 then !ins else ins)) r

theorem walk_cons (cur : List UInt8) (ins skip : Bool) (c : UInt8) (r : List UInt8) : walk cur ins skip (c :: r) =
    if c = 44 ∧ ins = false then emit cur ++ walk [] ins skip r
    else if skip then walk (cur ++ [c]) ins false r
    else walk (cur ++ [c]) (if c = 34 then !ins else ins) (decide (c = 92) && (if c = 34 then !ins else ins)) r := rfl
theorem comma_cons (ins skip : Bool) (c : UInt8) (r : List UInt8) : comma ins skip (c :: r) =
    if c = 44 ∧ ins = false then 0
    else if skip then 1 + comma ins false r
    else if c = 34 then 1 + comma (!ins) false r
    else if c = 92 ∧ ins = true then 1 + comma ins true r
    else 1 + comma ins false r := rfl

theorem walk_comma (cur : List UInt8) (ins skip : Bool) (l : List UInt8) (h : skip = true → ins = true) :
    walk cur ins skip l = emit (cur ++ l.take (comma ins skip l)) ++ (if comma ins skip l < l.length then walk [] false false (l.drop (comma ins skip l + 1)) else []) := by
  induction l generalizing cur ins skip with
  | nil => simp [walk, comma]
  | cons c r ih =>
    rw [walk_cons, comma_cons]
    by_cases h1 : c = 44 ∧ ins = false
    · have hs : skip = false := by
        cases skip
        · rfl
        · have := h rfl; rw [this] at h1; simp at h1
      obtain ⟨rfl, rfl⟩ := h1
      subst hs
      simp
    · rw [if_neg h1, if_neg h1]
      by_cases h2 : skip = true
      · subst h2
        rw [if_pos rfl, if_pos rfl, ih _ _ _ (by simp)]
        rw [Nat.add_comm 1]
        simp
      · rw [if_neg h2, if_neg h2]
        by_cases h3 : c = 34
        · subst h3
          rw [ih _ _ _ (by simp)]
          simp [Nat.add_comm 1]
        · by_cases h4 : c = 92 ∧ ins = true
          · obtain ⟨rfl, rfl⟩ := h4
            rw [ih _ _ _ (by simp)]
            simp [Nat.add_comm 1]
          · have h5 : (decide (c = 92) && ins) = false := by
              cases ins <;> simp at *; exact h4
            simp only [h3, if_false, h4, h5]
            rw [ih _ _ _ (by simp)]
            simp [Nat.add_comm 1]

theorem walk_split (l : List UInt8) : walk [] false false l = split1 l := by
  generalize hn : l.length = n
  induction n using Nat.strongRecOn generalizing l with
  | _ n ih =>
    rw [walk_comma _ _ _ _ (by simp)]
    by_cases h : l = []
    · subst h; simp [comma, split1_nil, emit, trim, trimL, trimR]
    · have h0 : 0 < l.length := List.length_pos_iff.2 h
      rw [split1_step l h, List.nil_append]
      split
      · rw [ih _ (by rw [List.length_drop]; omega) _ rfl]
      · rw [List.drop_eq_nil_of_le (by omega), split1_nil]

end IH
