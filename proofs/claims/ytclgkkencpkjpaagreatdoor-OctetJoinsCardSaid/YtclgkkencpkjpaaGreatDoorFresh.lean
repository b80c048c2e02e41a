/- What a call made stays, wherever else is written; a conversion among the movers of a drawn region. Condition: as each states. -/
import Derived.Test.YtclgkkencpkjpaaGreatDoorKt
namespace Go.Proofs.YtclgkkencpkjpaaGreatDoor
open Go.RowKit
set_option maxRecDepth 100000
/-- The blocks from b on that w' has are the same in W. -/
structure Fresh (b : Nat) (w' W : World) : Prop where
  size : w'.heap.size ≤ W.heap.size
  block : ∀ k, b ≤ k → k < w'.heap.size → W.heap[k]? = w'.heap[k]?
theorem Fresh.refl (b : Nat) (w : World) : Fresh b w w := ⟨Nat.le_refl _, fun _ _ _ => rfl⟩
theorem Fresh.alloc {b : Nat} {w' W : World} (h : Fresh b w' W) (o : Obj) : Fresh b w' (W.alloc o) :=
  ⟨by have := h.size; simp; omega, fun k h1 h2 => (Below.heap_alloc W o k (by have := h.size; omega)).trans (h.block k h1 h2)⟩
theorem Fresh.below {b : Nat} {w' W W' : World} (h : Fresh b w' W) (hb : Below W.heap.size W W') : Fresh b w' W' :=
  ⟨Nat.le_trans h.size hb.size, fun k h1 h2 => (hb.block k (by have := h.size; omega)).trans (h.block k h1 h2)⟩
theorem Fresh.only {b g : Nat} {w' W W' : World} (h : Fresh b w' W) (ho : Only g W W') (hg : g < b ∨ w'.heap.size ≤ g) : Fresh b w' W' :=
  ⟨by have := h.size; have := ho.size; omega, fun k h1 h2 => (ho.block k (by omega)).trans (h.block k h1 h2)⟩
theorem fresh_start {α : Prop} {b : Nat} {w : World} (_ : Fresh b w w → α) : Hid (Fresh b w w) := Lib.hid (Fresh.refl b w)
theorem own_fresh {w W : World} {b : Nat} {e : TypeId} {size n : Nat} {v : Value} {xs : List Value} (h : w.ownsRow b e size v n xs) (hf : Fresh b w W) : W.ownsRow b e size v n xs := by
  refine ⟨h.1, ?_⟩
  rcases h.2 with h2 | ⟨g, cap, cur, hv, hg, hh, r⟩
  · exact .inl h2
  · exact .inr ⟨g, cap, cur, hv, hg, (hf.block g hg (Array.getElem?_eq_some_iff.1 hh).1).trans hh, r⟩
section
variable {P : Program}
theorem conv_slice (W : World) (e : TypeId) (S : ByteArray) (hs : S.size ≤ 1000000000) : SliceIn (Lib.bytesWorld W e S) (Lib.bytesWorld W e S).heap.size 1 (some ⟨W.heap.size, 0, none⟩) S.size (grownCap W S.size 0 e) (bytesV S.data.toList) :=
  (RowAt.bytes W e S).slice (size := 1) (n := S.size) (by rw [bytesV_length, data_len, Nat.mul_one]) (grownCap_ge W _ 0 e) (grownCap_le_maxLen W _ 0 e (by simp only [maxLen]; omega))
/-- '[]byte(s)', in letters. -/
theorem wp_conv {o : Oper} {a : Act} {w : World} {K : Act → World → Prop} {Q : Exit → Act → World → Prop} (src dst e : TypeId) (x : Operand) (S : ByteArray) (n : Nat) (ho : o.op = .convert src dst x) (hx : a.eval x = .string S) {u : TypeDesc}
    (hs : P.underlying src = some u) (hd : P.underlying dst = some (.slice e)) (he : P.underlying e = some (.int .u8)) (hn : S.size = n) (hz : n ≤ 1000000000)
    (h : ∀ g cap W', SliceIn W' W'.heap.size 1 (some ⟨g, 0, none⟩) n cap (bytesV S.data.toList) → g < W'.heap.size → Below w.heap.size w W' → K (a.put o.dst (.slice (some ⟨g, 0, none⟩) n cap)) W') : o.wp P a w K Q := by
  subst hn
  unfold Oper.wp execOp
  simp only [ho, hx, Sem.run_bind, Sem.run_pure, Result.andThen_ok, Lib.run_convert_string_bytes (P := P) w src dst e S hs hd he]
  exact h _ _ _ (conv_slice w e S hz) (RowAt.bytes w e S).lt (below_bytesWorld w e S)
theorem wpList_conv {ops : Array Oper} {rest : List Oper} {o : Oper} {a : Act} {w : World} {Q : Exit → Act → World → Prop} (hgd : o.guard = none) (src dst e : TypeId) (x : Operand) (S : ByteArray) (n : Nat) (ho : o.op = .convert src dst x) (hx : a.eval x = .string S) {u : TypeDesc}
    (hs : P.underlying src = some u) (hd : P.underlying dst = some (.slice e)) (he : P.underlying e = some (.int .u8)) (hn : S.size = n) (hz : n ≤ 1000000000)
    (h : ∀ g cap W', SliceIn W' W'.heap.size 1 (some ⟨g, 0, none⟩) n cap (bytesV S.data.toList) → g < W'.heap.size → Below w.heap.size w W' → wpList P ops Q rest (a.put o.dst (.slice (some ⟨g, 0, none⟩) n cap)) W') : wpList P ops Q (o :: rest) a w :=
  wpList_plain hgd fun _ hK => wp_conv src dst e x S n ho hx hs hd he hn hz fun g cap W' h1 h2 h3 => hK _ _ (h g cap W' h1 h2 h3)
/-- The same, its whole row known: for an append onto it. -/
theorem wpList_convF {ops : Array Oper} {rest : List Oper} {o : Oper} {a : Act} {w : World} {Q : Exit → Act → World → Prop} (hgd : o.guard = none) (src dst e : TypeId) (x : Operand) (S : ByteArray) (n : Nat) (ho : o.op = .convert src dst x) (hx : a.eval x = .string S) {u : TypeDesc}
    (hs : P.underlying src = some u) (hd : P.underlying dst = some (.slice e)) (he : P.underlying e = some (.int .u8)) (hn : S.size = n)
    (h : ∀ W', RowAt W' w.heap.size e (bytesV S.data.toList ++ List.replicate (grownCap w n 0 e - n) (.int .u8 0)) → Below w.heap.size w W' → wpList P ops Q rest (a.put o.dst (.slice (some ⟨w.heap.size, 0, none⟩) n (grownCap w n 0 e))) W') : wpList P ops Q (o :: rest) a w := by
  subst hn
  refine wpList_plain hgd fun K hK => ?_
  unfold Oper.wp execOp
  simp only [ho, hx, Sem.run_bind, Sem.run_pure, Result.andThen_ok, Lib.run_convert_string_bytes (P := P) w src dst e S hs hd he]
  have hz : (Lib.bytesCells w e S).toList = bytesV S.data.toList ++ List.replicate (grownCap w S.size 0 e - S.size) (.int .u8 0) := by
    simp only [Lib.bytesCells, Array.toList_append, Array.toList_map, Array.toList_replicate]
    rfl
  refine hK _ _ (h _ ⟨_, _, _, Lib.bytesWorld_at_new w e S, ?_, ?_⟩ (below_bytesWorld w e S))
  · rw [← hz, List.take_length]
  · rw [← hz, if_neg (by omega), Array.length_toList]
    exact Nat.le_refl _
end
end Go.Proofs.YtclgkkencpkjpaaGreatDoor
