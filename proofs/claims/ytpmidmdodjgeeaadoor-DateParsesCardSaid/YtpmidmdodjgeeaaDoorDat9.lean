/- Walks of layer 2: a date and a time of day out of texts, said as the plain law says it. Condition: texts are within bounds. -/
import Derived.Test.YtpmidmdodjgeeaaDoorDat8
namespace Go.Proofs.YtpmidmdodjgeeaaDoor
open Go.RowKit IH
set_option maxRecDepth 100000
theorem dated_spec (D M Y : List UInt8) (g : Nat) (y m d h mi se k : Int) (w : World) (hsh : w.ShapedOpen Tryd.prog) (hD : D.length ≤ 1000000000) (hY : Y.length ≤ 1000000000) (hr : RowAt w g 83 (civV y m d h mi se k)) :
    Calls Tryd.prog 80 #[.pointer (some ⟨g, 0, none⟩), .string ⟨D.toArray⟩, .string ⟨M.toArray⟩, .string ⟨Y.toArray⟩] w fun e w' => e = .returned (.bool (datedL D M Y).isSome) ∧ (∃ y' m' d' : Int, RowAt w' g 83 (civV y' m' d' h mi se k) ∧ ∀ q, datedL D M Y = some q → q = (y', m', d')) ∧ Save w.heap.size g w w' := by
  by_cases hm : 1 ≤ monOf M
  · refine (dated_yes ⟨D.toArray⟩ ⟨M.toArray⟩ ⟨Y.toArray⟩ g y m d h mi se k w hsh (by rw [size_mk]; exact hD) (by rw [size_mk]; exact hY) hr hm).mono ?_
    rintro e w' ⟨rfl, h1, h2⟩
    have hdd : datedL D M Y = if okDate (century Y) (monOf M) (digitsD D) = true then some (century Y, monOf M, digitsD D) else none := by
      unfold datedL okDate
      by_cases a1 : 1970 ≤ century Y <;> by_cases a2 : 1 ≤ digitsD D <;> by_cases a3 : digitsD D ≤ mlen (century Y) (monOf M) <;> simp [hm, a1, a2, a3]
    refine ⟨ret_bool ?_, ⟨_, _, _, h1, fun q hq => ?_⟩, h2⟩
    · rw [hdd]
      show okDate (century Y) (monOf M) (digitsD D) = _
      cases okDate (century Y) (monOf M) (digitsD D) <;> rfl
    · rw [hdd] at hq
      split at hq
      · exact (Option.some.inj hq).symm
      · cases hq
  · refine (dated_no ⟨D.toArray⟩ ⟨M.toArray⟩ ⟨Y.toArray⟩ g w hsh (by show monOf M < 1; omega)).mono ?_
    rintro e w' ⟨rfl, rfl⟩
    have hdd : datedL D M Y = none := by unfold datedL; rw [if_neg fun hc => hm hc.1]
    rw [hdd]
    exact ⟨rfl, ⟨y, m, d, hr, fun q hq => by cases hq⟩, below_save (Below.refl _ _)⟩
theorem timed_spec (s : List UInt8) (g : Nat) (y m d h mi se k : Int) (w : World) (hsh : w.ShapedOpen Tryd.prog) (hs : s.length ≤ 1000000000) (hr : RowAt w g 83 (civV y m d h mi se k)) :
    Calls Tryd.prog 81 #[.pointer (some ⟨g, 0, none⟩), .string ⟨s.toArray⟩] w fun e w' => e = .returned (.bool (timedL s).isSome) ∧ (∃ h' i' s' : Int, RowAt w' g 83 (civV y m d h' i' s' k) ∧ ∀ q, timedL s = some q → q = (h', i', s')) ∧ Save w.heap.size g w w' := by
  by_cases hyes : ∃ a b c, pieces 58 s = [a, b, c] ∧ s.length = 8 ∧ a.length = 2 ∧ b.length = 2
  · obtain ⟨a, b, c, hp, h8, ha, hb⟩ := hyes
    refine (timed_yes ⟨s.toArray⟩ g y m d h mi se k w hsh (by rw [size_mk]; omega) hr a b c hp (by rw [size_mk]; exact h8) ha hb).mono ?_
    rintro e w' ⟨rfl, h1, h2⟩
    have htt : timedL s = if inTime (digitsD a) (digitsD b) (digitsD c) = true then some (digitsD a, digitsD b, digitsD c) else none := by
      unfold timedL
      rw [hp]
      simp only [inTime, Bool.and_eq_true, decide_eq_true_eq, h8, ha, hb, true_and, and_assoc]
    refine ⟨ret_bool ?_, ⟨_, _, _, h1, fun q hq => ?_⟩, h2⟩
    · rw [htt]
      cases inTime (digitsD a) (digitsD b) (digitsD c) <;> rfl
    · rw [htt] at hq
      split at hq
      · exact (Option.some.inj hq).symm
      · cases hq
  · refine (timed_no ⟨s.toArray⟩ g w hsh (by rw [size_mk]; omega) (fun a b c hp hc => hyes ⟨a, b, c, hp, hc⟩)).mono ?_
    rintro e w' ⟨rfl, hb⟩
    have htt : timedL s = none := timed_none fun a b c hp hc => hyes ⟨a, b, c, hp, hc⟩
    rw [htt]
    exact ⟨rfl, ⟨h, mi, se, hr.below hb hr.lt, fun q hq => by cases hq⟩, below_save hb⟩

abbrev DT := (Int × Int × Int) × (Int × Int × Int)
/-- Where the reading of a form stands: the pieces, the date so far (a known one, if r says so), the result's place. -/
def PartsOut (L : List (List UInt8)) (r : Option DT) (w w1 : World) : Prop :=
  RowAt w1 (w.heap.size + 2) 9 (strsV L) ∧ (∃ y m d h mi se : Int, RowAt w1 (w.heap.size + 1) 83 (civV y m d h mi se 0) ∧ ∀ q, r = some q → q = ((y, m, d), (h, mi, se))) ∧ RowAt w1 w.heap.size 83 (civV 0 0 0 0 0 0 0) ∧ Below w.heap.size w w1
theorem PartsOut.drewN {L : List (List UInt8)} {r : Option DT} {w w1 : World} (h : PartsOut L r w w1) (n : Nat) : PartsOut L r w (w1.drewN n) := by
  obtain ⟨h1, ⟨a, b, c, d, e, f, h2, h3⟩, h4, h5⟩ := h
  exact ⟨h1.drewN n, ⟨a, b, c, d, e, f, h2.drewN n, h3⟩, h4.drewN n, below_drewN h5 n⟩
theorem PartsOut.weak {L : List (List UInt8)} {r : Option DT} {w w1 : World} (h : PartsOut L r w w1) : PartsOut L none w w1 := by
  obtain ⟨h1, ⟨a, b, c, d, e, f, h2, h3⟩, h4, h5⟩ := h
  exact ⟨h1, ⟨a, b, c, d, e, f, h2, fun q hq => by cases hq⟩, h4, h5⟩
theorem PartsOut.civ {L : List (List UInt8)} {r r' : Option DT} {w w1 w2 : World} (h : PartsOut L r w w1) {y m d hh mi se : Int} (hs : Save w1.heap.size (w.heap.size + 1) w1 w2)
    (hr : RowAt w2 (w.heap.size + 1) 83 (civV y m d hh mi se 0)) (hq : ∀ q, r' = some q → q = ((y, m, d), (hh, mi, se))) : PartsOut L r' w w2 := by
  obtain ⟨h1, _, h4, h5⟩ := h
  have hz := h5.size
  exact ⟨h1.save hs (by omega) h1.lt, ⟨_, _, _, _, _, _, hr, hq⟩, h4.save hs (by omega) h4.lt, h5.trans ((hs.mono hz).below (by omega))⟩
theorem PartsOut.below {L : List (List UInt8)} {r : Option DT} {w w1 w2 : World} (h : PartsOut L r w w1) (hb : Below w1.heap.size w1 w2) : PartsOut L r w w2 := by
  obtain ⟨h1, ⟨a, b, c, d, e, f, h2, h3⟩, h4, h5⟩ := h
  exact ⟨h1.below hb h1.lt, ⟨a, b, c, d, e, f, h2.below hb h2.lt, h3⟩, h4.below hb h4.lt, below_step h5 hb⟩
theorem tryDT_some {d m y t : List UInt8} (h1 : (datedL d m y).isSome = true) (h2 : (timedL t).isSome = true) : ∃ a b, datedL d m y = some a ∧ timedL t = some b ∧ tryDT d m y t = some (a, b) := by
  obtain ⟨a, ha⟩ := Option.isSome_iff_exists.1 h1
  obtain ⟨b, hb⟩ := Option.isSome_iff_exists.1 h2
  exact ⟨a, b, ha, hb, tryDT_of ha hb⟩
theorem tryDT_none {d m y t : List UInt8} (h : (datedL d m y).isSome = false ∨ (timedL t).isSome = false) : tryDT d m y t = none := by
  unfold tryDT
  rcases h with h | h
  · have : datedL d m y = none := by simpa using h
    rw [this]
  · have : timedL t = none := by simpa using h
    rw [this]
    split
    · rename_i hq; cases hq
    · rfl
end Go.Proofs.YtpmidmdodjgeeaaDoor
