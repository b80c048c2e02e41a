/- Layer 8, what later texts take from its laws: messages in memory, what octets say has few fields, parts of a slice whose base is a letter. No condition but as each states. -/
import Derived.Test.YtclgkkencpkjpaaGreatDoorTe
import Derived.Test.YtclgkkencpkjpaaGreatDoorKt
namespace IH
theorem runM_le : ∀ (k : Nat) (r : Rd) (b : List UInt8), b.length ≤ k → (runM r b).2.1 ≤ b.length := by
  intro k
  induction k with
  | zero =>
    intro r b hb
    have hle := stepM_le (r := r) (b := b)
    rw [runM_step]
    split
    · exact Nat.zero_le _
    · rw [if_pos (by omega)]; exact Nat.zero_le _
  | succ k ih =>
    intro r b hb
    have hle := stepM_le (r := r) (b := b)
    rw [runM_step]
    split
    · exact Nat.zero_le _
    · split
      · exact Nat.zero_le _
      · have h1 := ih (stepM r b).2.2.2 (b.drop (stepM r b).2.1) (by rw [List.length_drop]; omega)
        rw [List.length_drop] at h1
        unfold aheadM
        split
        · exact Nat.zero_le _
        · show (stepM r b).2.1 + _ ≤ _
          omega
end IH
namespace Go.Proofs.YtclgkkencpkjpaaGreatDoor
open Go.RowKit IH
set_option maxRecDepth 100000
def RightC (C : List Value) : Prop := C.length = 7 ∧ ∀ v ∈ C, v.oneCell' = true
theorem msgC_right (s : Sta) (A A' : Option Addr) (n c n' c' : Nat) : RightC (msgC s (.slice A n c) (.slice A' n' c')) := ⟨rfl, msgC_one _ _ _ _ _ _ _⟩
def IsMsg (T : Told8) (C : List Value) (W : World) : Prop := ∃ A n c A2 n2 c2, C = msgC T.start (.slice A n c) (.slice A2 n2 c2) ∧ SliceIn W W.heap.size 2 A n c (fldsV T.fields) ∧ SliceIn W W.heap.size 1 A2 n2 c2 (bytesV T.body)
theorem isMsg_below (T : Told8) (C : List Value) (W W' : World) (h : IsMsg T C W) (hb : Below W.heap.size W W') : IsMsg T C W' := by
  obtain ⟨A, n, c, A2, n2, c2, h1, h2, h3⟩ := h
  exact ⟨A, n, c, A2, n2, c2, h1, (h2.below hb).more hb.size, (h3.below hb).more hb.size⟩
theorem isMsg_right (T : Told8) (C : List Value) (W : World) (h : IsMsg T C W) : RightC C := by
  obtain ⟨A, n, c, A2, n2, c2, rfl, -, -⟩ := h
  exact msgC_right _ _ _ _ _ _ _
theorem headT_few (method : List UInt8) (s : Sta) (k : Nat) (r : List UInt8) : (headT method s k r).fields.length ≤ 128 := by
  unfold headT
  split
  · simp [Told8.none]
  · split
    · simp [Told8.none]
    · split
      · simp [Told8.none]
      · unfold bodyT
        split
        · split
          · simp [Told8.none]
          · exact parse_len _
        · exact parse_len _
theorem told_few (asks : Bool) (method b : List UInt8) : (toldM asks method b).fields.length ≤ 128 := by
  unfold toldM
  split
  · simp [Told8.none]
  · split
    · simp [Told8.none]
    · exact headT_few _ _ _ _
/-- A message without what its reading tells besides. -/
def toldOf (s : Sta) (L : List Fld) (X : List UInt8) : Told8 := ⟨s, L, X, true, 0, true, 0⟩
/-- Where x[l:] of such a slice begins. -/
def sliceA (A : Option Addr) (c l : Nat) : Option Addr := if c = l then A else A.map (·.add (l * 1))
theorem sub_any {w : World} {B n c : Nat} {A : Option Addr} {L : List UInt8} (hin : SliceIn w B 1 A n c (bytesV L)) (l h : Nat) (hlh : l ≤ h) (hh : h ≤ n) : SliceIn w B 1 (sliceA A c l) (h - l) (c - l) (bytesV ((L.take h).drop l)) := by
  have h0 := hin.sub (a := l) (b := h) hlh hh (sliceA A c l) (fun hlt => by unfold sliceA; rw [if_neg (by have := hin.2.1; omega)])
  rw [Nat.mul_one, Nat.mul_one] at h0
  have e : ((bytesV L).drop l).take (h - l) = bytesV ((L.take h).drop l) := by
    simp only [bytesV, ← List.map_drop, ← List.map_take]
    rw [List.drop_take]
  rw [e] at h0
  exact h0
theorem same_of (s : Sta) (L : List Fld) (X : List UInt8) (hL : L.length ≤ 1000000) (C D : List Value) (W : World) (h : IsMsg (toldOf s L X) C W) (h' : IsMsg (toldOf s L X) D W) : Calls Tryz.prog 45 #[.agg C.toArray, .agg D.toArray] W fun e w' => e = .returned (.bool true) ∧ Below W.heap.size W w' := by
  obtain ⟨A, n, c, A2, n2, c2, rfl, h2, h3⟩ := h
  obtain ⟨A4, n4, c4, A5, n5, c5, rfl, h5, h6⟩ := h'
  exact rsame8_any s L X A A2 A4 A5 n n2 n4 n5 c c2 c4 c5 W h2 h3 h5 h6 (by have := fld_count h2; rw [← this]; exact hL)
end Go.Proofs.YtclgkkencpkjpaaGreatDoor
