/- Tk: several texts, one behind the other. -/
import Derived.Test.YtniiadhhefgmcaaGreatDoorKt
import Derived.Test.YtniiadhhefgmcaaGreatDoorSg
import Derived.Test.YtniiadhhefgmcaaGreatDoorRc
import Derived.Test.YtniiadhhefgmcaaGreatDoorOp
import Derived.Lib.SmallJoins
/- What a call made stays, wherever else is written; a conversion among the movers of a drawn region. Condition: as each states. -/
namespace Go.Proofs.YtniiadhhefgmcaaGreatDoor
open Go.RowKit
set_option maxRecDepth 100000
/-- The blocks from b on that w' has are the same in W. -/
structure Fresh (b : Nat) (w' W : World) : Prop where
  size : w'.heap.size ≤ W.heap.size
  block : ∀ k, b ≤ k → k < w'.heap.size → W.heap[k]? = w'.heap[k]?
theorem Fresh.refl (b : Nat) (w : World) : Fresh b w w := ⟨Nat.le_refl _, fun _ _ _ => rfl⟩
theorem Fresh.alloc {b : Nat} {w' W : World} (h : Fresh b w' W) (o : Obj) : Fresh b w' (W.alloc o) :=
  ⟨by have := h.size; simp; omega, fun k h1 h2 => (Below.heap_alloc W o k (by have := h.size; omega)).trans (h.block k h1 h2)⟩
theorem Fresh.below {b : Nat} {w' W W' : World} (h : Fresh b w' W) (hb : Below W.heap.size W W') : Fresh b w' W' :=
  ⟨Nat.le_trans h.size hb.size, fun k h1 h2 => (hb.block k (by have := h.size; omega)).trans (h.block k h1 h2)⟩
theorem Fresh.only {b g : Nat} {w' W W' : World} (h : Fresh b w' W) (ho : Only g W W') (hg : g < b ∨ w'.heap.size ≤ g) : Fresh b w' W' :=
  ⟨by have := h.size; have := ho.size; omega, fun k h1 h2 => (ho.block k (by omega)).trans (h.block k h1 h2)⟩
section
variable {P : Program}
theorem conv_slice (W : World) (e : TypeId) (S : ByteArray) (hs : S.size ≤ 1000000000) : SliceIn (Lib.bytesWorld W e S) (Lib.bytesWorld W e S).heap.size 1 (some ⟨W.heap.size, 0, none⟩) S.size (grownCap W S.size 0 e) (bytesV S.data.toList) :=
  (RowAt.bytes W e S).slice (size := 1) (n := S.size) (by rw [bytesV_length, data_len, Nat.mul_one]) (grownCap_ge W _ 0 e) (grownCap_le_maxLen W _ 0 e (by simp only [maxLen]; omega))
/-- '[]byte(s)', in letters. -/
theorem wp_conv {o : Oper} {a : Act} {w : World} {K : Act → World → Prop} {Q : Exit → Act → World → Prop} (src dst e : TypeId) (x : Operand) (S : ByteArray) (n : Nat) (ho : o.op = .convert src dst x) (hx : a.eval x = .string S) {u : TypeDesc}
    (hs : P.underlying src = some u) (hd : P.underlying dst = some (.slice e)) (he : P.underlying e = some (.int .u8)) (hn : S.size = n) (hz : n ≤ 1000000000)
    (h : ∀ g cap W', SliceIn W' W'.heap.size 1 (some ⟨g, 0, none⟩) n cap (bytesV S.data.toList) → g < W'.heap.size → Below w.heap.size w W' → K (a.put o.dst (.slice (some ⟨g, 0, none⟩) n cap)) W') : o.wp P a w K Q := by
  subst hn
  unfold Oper.wp execOp
  simp only [ho, hx, Sem.run_bind, Sem.run_pure, Result.andThen_ok, Lib.run_convert_string_bytes (P := P) w src dst e S hs hd he]
  exact h _ _ _ (conv_slice w e S hz) (RowAt.bytes w e S).lt (below_bytesWorld w e S)
theorem wpList_conv {ops : Array Oper} {rest : List Oper} {o : Oper} {a : Act} {w : World} {Q : Exit → Act → World → Prop} (hgd : o.guard = none) (src dst e : TypeId) (x : Operand) (S : ByteArray) (n : Nat) (ho : o.op = .convert src dst x) (hx : a.eval x = .string S) {u : TypeDesc}
    (hs : P.underlying src = some u) (hd : P.underlying dst = some (.slice e)) (he : P.underlying e = some (.int .u8)) (hn : S.size = n) (hz : n ≤ 1000000000)
    (h : ∀ g cap W', SliceIn W' W'.heap.size 1 (some ⟨g, 0, none⟩) n cap (bytesV S.data.toList) → g < W'.heap.size → Below w.heap.size w W' → wpList P ops Q rest (a.put o.dst (.slice (some ⟨g, 0, none⟩) n cap)) W') : wpList P ops Q (o :: rest) a w :=
  wpList_plain hgd fun _ hK => wp_conv src dst e x S n ho hx hs hd he hn hz fun g cap W' h1 h2 h3 => hK _ _ (h g cap W' h1 h2 h3)
end
end Go.Proofs.YtniiadhhefgmcaaGreatDoor

/- MessageTakes in plain Lean: a reader that is fed piece by piece. No condition but lengths. -/
namespace IH
theorem runM_in : ∀ (k : Nat) (r : Rd) (b : List UInt8), b.length ≤ k → RdIn r → r.fault = 0 → (runM r b).2.2.1 = 0 → RdIn (runM r b).2.2.2 ∧ (runM r b).2.2.2.fault = 0 := by
  intro k
  induction k with
  | zero =>
    intro r b hb hr hf he
    have hle := stepM_le (r := r) (b := b)
    rw [runM_step] at he ⊢
    split at he
    · rename_i h; exact absurd he h
    · rename_i h
      rw [if_neg h]
      rw [if_pos (by omega)]
      exact ⟨stepM_in hr b (by simpa using h), by rw [stepM_fault]; exact hf⟩
  | succ k ih =>
    intro r b hb hr hf he
    have hle := stepM_le (r := r) (b := b)
    rw [runM_step] at he ⊢
    split at he
    · rename_i h; exact absurd he h
    · rename_i h
      have h0 : (stepM r b).2.2.1 = 0 := by simpa using h
      rw [if_neg h]
      split
      · exact ⟨stepM_in hr b h0, by rw [stepM_fault]; exact hf⟩
      · rename_i h2
        rw [if_neg h2] at he
        have he' : (runM (stepM r b).2.2.2 (b.drop (stepM r b).2.1)).2.2.1 = 0 := by
          unfold aheadM at he
          split at he
          · rename_i h3; exact absurd he h3
          · rename_i h3; simpa using h3
        have := ih (stepM r b).2.2.2 (b.drop (stepM r b).2.1) (by rw [List.length_drop]; omega) (stepM_in hr b h0) (by rw [stepM_fault]; exact hf) he'
        unfold aheadM
        rw [if_neg (by simpa using he')]
        exact this
/-- What a reader knows after so many octets: all of them taken, or kept for the next time. -/
structure Fed (asks : Bool) (method l : List UInt8) (out : List UInt8) (took : Nat) (r : Rd) : Prop where
  run : runM (Rd.new asks method) l = (out, took, 0, r)
theorem fed_zero (asks : Bool) (method : List UInt8) : runM (Rd.new asks method) [] = ([], 0, 0, Rd.new asks method) := by
  cases asks <;> rfl
/-- What is told behind a piece. -/
structure FedSays (R : List UInt8 × Nat × Int × Rd) (T : Told8) (asks : Bool) (method l out : List UInt8) (took : Nat) : Prop where
  err : R.2.2.1 = T.e
  done : (R.2.2.2.w == 3) = T.over
  bad : T.e ≠ 0 → R.1 = [] ∧ R.2.1 = 0 ∧ R.2.2.2.fault = T.e
  fed : T.e = 0 → Fed asks method l (out ++ R.1) (took + R.2.1) R.2.2.2
  took : T.e = 0 → took + R.2.1 = T.n
  framed : T.e = 0 → (¬ R.2.2.2.w < 2 ↔ T.framed = true)
  head : T.e = 0 → T.framed = true → R.2.2.2.start = T.start ∧ R.2.2.2.fields = T.fields
  body : T.e = 0 → out ++ R.1 = T.body
end IH

/- Layer 8: a reader that has failed takes nothing more; parts of a slice whose base is a letter; an argument How opened. Condition: as each states. -/
namespace Go.Proofs.YtniiadhhefgmcaaGreatDoor
open Go.ChangeShapes Go.WideShapes Go.ChangeAt Go.RowKit Go.WideMaps Go.WideElems Go.Deep Go.Joins IH
set_option maxRecDepth 100000
theorem take_any {w : World} {B n c : Nat} {A A' : Option Addr} {L : List UInt8} (hin : SliceIn w B 1 A n c (bytesV L)) (k : Nat) (hk : k ≤ n) (hA : 0 < k → A' = A) : SliceIn w B 1 A' k c (bytesV (L.take k)) := by
  have hl : L.length = n := by have := hin.1; rw [bytesV_length] at this; omega
  refine ⟨by rw [bytesV_length, List.length_take]; omega, by have := hin.2.1; omega, hin.2.2.1, fun h0 => ?_⟩
  obtain ⟨b, o, hA2, hb, hc⟩ := hin.2.2.2 (by omega)
  refine ⟨b, o, by rw [hA h0, hA2], hb, fun j u hu => hc j u ?_⟩
  rw [bytesV_get] at hu ⊢
  rw [List.getElem?_take] at hu
  split at hu
  · exact hu
  · simp at hu
end Go.Proofs.YtniiadhhefgmcaaGreatDoor

