/- MessageBare and MessageChunks in plain Lean: a response without a body; a body in pieces. No condition. -/
import Derived.Test.YteocdpkenlkmbaaGreatDoorMs
namespace IH
def getN : List UInt8 := [71, 69, 84]
theorem framing_bare {s : Sta} {fs : List Fld} {m : List UInt8} (h0 : s.status ≠ 0) (hb : bareM s.status m = true) : framingL s fs m = (0, 0, 0) := by
  unfold framingL
  rw [if_pos ⟨h0, hb⟩]
theorem bare_head (st : Int) : bareM st headN = true := by simp [bareM]
theorem right_bare {s : Sta} {L : List Fld} {X m m' : List UInt8} (h0 : s.status ≠ 0) (hb : bareM s.status m = true) (hb' : bareM s.status m' = true) : rightM ⟨s, L, X⟩ m = rightM ⟨s, L, X⟩ m' := by
  unfold rightM
  simp only [framing_bare h0 hb, framing_bare h0 hb']
theorem print_bare {s : Sta} {L : List Fld} {X m m' : List UInt8} (h0 : s.status ≠ 0) (hb : bareM s.status m = true) (hb' : bareM s.status m' = true) : printM ⟨s, L, X⟩ m = printM ⟨s, L, X⟩ m' := by
  unfold printM
  simp only [framing_bare h0 hb, framing_bare h0 hb']
/-- So much of a body, in pieces. -/
def InChunks (body : List UInt8) (a : Nat) (T : List UInt8) : Prop := ∃ ps : List (List UInt8), T = ps.flatMap encP ∧ ps.flatten = body.take a
theorem inChunks_zero (body : List UInt8) : InChunks body 0 [] := ⟨[], rfl, by simp⟩
theorem inChunks_next {body : List UInt8} {a n : Nat} {T : List UInt8} (h : InChunks body a T) (hn : 0 < n) (ha : a + n ≤ body.length) : InChunks body (a + n) (T ++ (digs 16 64 n ++ 13 :: 10 :: ((body.drop a).take n ++ [13, 10]))) := by
  obtain ⟨ps, rfl, hp⟩ := h
  have hl : ((body.drop a).take n).length = n := by rw [List.length_take, List.length_drop]; omega
  have hne : (body.drop a).take n ≠ [] := fun h => by rw [h] at hl; simp at hl; omega
  refine ⟨ps ++ [(body.drop a).take n], ?_, ?_⟩
  · rw [List.flatMap_append]
    congr 1
    simp only [List.flatMap_cons, List.flatMap_nil, List.append_nil]
    unfold encP
    rw [if_neg hne, hl]
  · rw [List.flatten_append, hp]
    simp only [List.flatten_cons, List.flatten_nil, List.append_nil]
    rw [List.take_add]
theorem chunks_read {m : Msg} {method : List UInt8} (h : rightM m method = true) (hk : (framingL m.start m.fields method).1 = 2) {T : List UInt8} (hT : InChunks m.body m.body.length T) :
    toldM (decide (m.start.status = 0)) method (printS m.start ++ (printL m.fields ++ (T ++ [48, 13, 10, 120, 58, 32, 121, 13, 10, 13, 10]))) =
      ⟨m.start, m.fields, m.body, true, (printS m.start).length + (printL m.fields).length + T.length + 11, true, 0⟩ := by
  obtain ⟨ps, rfl, hp⟩ := hT
  rw [List.take_length] at hp
  exact msg_chunks h hk ps hp (by unfold total; rw [← hp, List.length_flatten])
/-- Printed with no body, but for the last five octets. -/
theorem print_none {s : Sta} {L : List Fld} {method : List UInt8} (hk : (framingL s L method).1 = 2) : printM ⟨s, L, []⟩ method = printS s ++ printL L ++ [48, 13, 10, 13, 10] := by
  unfold printM
  simp only [hk, if_true]
  unfold encL
  simp [encP]
end IH
