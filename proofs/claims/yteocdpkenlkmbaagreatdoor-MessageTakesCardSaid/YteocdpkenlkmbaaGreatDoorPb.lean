/- Pb: several texts, one behind the other. -/
import Derived.Test.YteocdpkenlkmbaaGreatDoorTe
import Derived.Test.YteocdpkenlkmbaaGreatDoorKt
import Derived.Test.YteocdpkenlkmbaaGreatDoorSm
/- Layer 8's laws: MessageParses, walked. Condition: the world's shape. Printed by mklaw08a.py. -/
namespace Go.Proofs.YteocdpkenlkmbaaGreatDoor
open Go.RowKit IH
set_option maxRecDepth 100000
theorem ret_bool8 {b : Bool} (h : b = true) : Ending.returned (.bool b) = Ending.returned (.bool true) := by rw [h]
def RightC (C : List Value) : Prop := C.length = 7 ∧ ∀ v ∈ C, v.oneCell' = true
theorem msgC_right (s : Sta) (A A' : Option Addr) (n c n' c' : Nat) : RightC (msgC s (.slice A n c) (.slice A' n' c')) := ⟨rfl, msgC_one _ _ _ _ _ _ _⟩
def IsMsg (T : Told8) (C : List Value) (W : World) : Prop := ∃ A n c A2 n2 c2, C = msgC T.start (.slice A n c) (.slice A2 n2 c2) ∧ SliceIn W W.heap.size 2 A n c (fldsV T.fields) ∧ SliceIn W W.heap.size 1 A2 n2 c2 (bytesV T.body)
theorem isMsg_below (T : Told8) (C : List Value) (W W' : World) (h : IsMsg T C W) (hb : Below W.heap.size W W') : IsMsg T C W' := by
  obtain ⟨A, n, c, A2, n2, c2, h1, h2, h3⟩ := h
  exact ⟨A, n, c, A2, n2, c2, h1, (h2.below hb).more hb.size, (h3.below hb).more hb.size⟩
theorem isMsg_right (T : Told8) (C : List Value) (W : World) (h : IsMsg T C W) : RightC C := by
  obtain ⟨A, n, c, A2, n2, c2, rfl, -, -⟩ := h
  exact msgC_right _ _ _ _ _ _ _
theorem headT_few (method : List UInt8) (s : Sta) (k : Nat) (r : List UInt8) : (headT method s k r).fields.length ≤ 128 := by
  unfold headT
  split
  · simp [Told8.none]
  · split
    · simp [Told8.none]
    · split
      · simp [Told8.none]
      · unfold bodyT
        split
        · split
          · simp [Told8.none]
          · exact parse_len _
        · exact parse_len _
theorem told_few (asks : Bool) (method b : List UInt8) : (toldM asks method b).fields.length ≤ 128 := by
  unfold toldM
  split
  · simp [Told8.none]
  · split
    · simp [Told8.none]
    · exact headT_few _ _ _ _
end Go.Proofs.YteocdpkenlkmbaaGreatDoor

/- What a call made stays, wherever else is written; a conversion among the movers of a drawn region. Condition: as each states. -/
namespace Go.Proofs.YteocdpkenlkmbaaGreatDoor
open Go.RowKit
set_option maxRecDepth 100000
/-- The blocks from b on that w' has are the same in W. -/
structure Fresh (b : Nat) (w' W : World) : Prop where
  size : w'.heap.size ≤ W.heap.size
  block : ∀ k, b ≤ k → k < w'.heap.size → W.heap[k]? = w'.heap[k]?
theorem Fresh.refl (b : Nat) (w : World) : Fresh b w w := ⟨Nat.le_refl _, fun _ _ _ => rfl⟩
theorem Fresh.alloc {b : Nat} {w' W : World} (h : Fresh b w' W) (o : Obj) : Fresh b w' (W.alloc o) :=
  ⟨by have := h.size; simp; omega, fun k h1 h2 => (Below.heap_alloc W o k (by have := h.size; omega)).trans (h.block k h1 h2)⟩
theorem Fresh.below {b : Nat} {w' W W' : World} (h : Fresh b w' W) (hb : Below W.heap.size W W') : Fresh b w' W' :=
  ⟨Nat.le_trans h.size hb.size, fun k h1 h2 => (hb.block k (by have := h.size; omega)).trans (h.block k h1 h2)⟩
theorem Fresh.only {b g : Nat} {w' W W' : World} (h : Fresh b w' W) (ho : Only g W W') (hg : g < b ∨ w'.heap.size ≤ g) : Fresh b w' W' :=
  ⟨by have := h.size; have := ho.size; omega, fun k h1 h2 => (ho.block k (by omega)).trans (h.block k h1 h2)⟩
theorem fresh_start {α : Prop} {b : Nat} {w : World} (_ : Fresh b w w → α) : Hid (Fresh b w w) := Lib.hid (Fresh.refl b w)
theorem own_fresh {w W : World} {b : Nat} {e : TypeId} {size n : Nat} {v : Value} {xs : List Value} (h : w.ownsRow b e size v n xs) (hf : Fresh b w W) : W.ownsRow b e size v n xs := by
  refine ⟨h.1, ?_⟩
  rcases h.2 with h2 | ⟨g, cap, cur, hv, hg, hh, r⟩
  · exact .inl h2
  · exact .inr ⟨g, cap, cur, hv, hg, (hf.block g hg (Array.getElem?_eq_some_iff.1 hh).1).trans hh, r⟩
section
variable {P : Program}
theorem conv_slice (W : World) (e : TypeId) (S : ByteArray) (hs : S.size ≤ 1000000000) : SliceIn (Lib.bytesWorld W e S) (Lib.bytesWorld W e S).heap.size 1 (some ⟨W.heap.size, 0, none⟩) S.size (grownCap W S.size 0 e) (bytesV S.data.toList) :=
  (RowAt.bytes W e S).slice (size := 1) (n := S.size) (by rw [bytesV_length, data_len, Nat.mul_one]) (grownCap_ge W _ 0 e) (grownCap_le_maxLen W _ 0 e (by simp only [maxLen]; omega))
/-- '[]byte(s)', in letters. -/
theorem wp_conv {o : Oper} {a : Act} {w : World} {K : Act → World → Prop} {Q : Exit → Act → World → Prop} (src dst e : TypeId) (x : Operand) (S : ByteArray) (n : Nat) (ho : o.op = .convert src dst x) (hx : a.eval x = .string S) {u : TypeDesc}
    (hs : P.underlying src = some u) (hd : P.underlying dst = some (.slice e)) (he : P.underlying e = some (.int .u8)) (hn : S.size = n) (hz : n ≤ 1000000000)
    (h : ∀ g cap W', SliceIn W' W'.heap.size 1 (some ⟨g, 0, none⟩) n cap (bytesV S.data.toList) → g < W'.heap.size → Below w.heap.size w W' → K (a.put o.dst (.slice (some ⟨g, 0, none⟩) n cap)) W') : o.wp P a w K Q := by
  subst hn
  unfold Oper.wp execOp
  simp only [ho, hx, Sem.run_bind, Sem.run_pure, Result.andThen_ok, Lib.run_convert_string_bytes (P := P) w src dst e S hs hd he]
  exact h _ _ _ (conv_slice w e S hz) (RowAt.bytes w e S).lt (below_bytesWorld w e S)
theorem wpList_conv {ops : Array Oper} {rest : List Oper} {o : Oper} {a : Act} {w : World} {Q : Exit → Act → World → Prop} (hgd : o.guard = none) (src dst e : TypeId) (x : Operand) (S : ByteArray) (n : Nat) (ho : o.op = .convert src dst x) (hx : a.eval x = .string S) {u : TypeDesc}
    (hs : P.underlying src = some u) (hd : P.underlying dst = some (.slice e)) (he : P.underlying e = some (.int .u8)) (hn : S.size = n) (hz : n ≤ 1000000000)
    (h : ∀ g cap W', SliceIn W' W'.heap.size 1 (some ⟨g, 0, none⟩) n cap (bytesV S.data.toList) → g < W'.heap.size → Below w.heap.size w W' → wpList P ops Q rest (a.put o.dst (.slice (some ⟨g, 0, none⟩) n cap)) W') : wpList P ops Q (o :: rest) a w :=
  wpList_plain hgd fun _ hK => wp_conv src dst e x S n ho hx hs hd he hn hz fun g cap W' h1 h2 h3 => hK _ _ (h g cap W' h1 h2 h3)
/-- The same, its whole row known: for an append onto it. -/
theorem wpList_convF {ops : Array Oper} {rest : List Oper} {o : Oper} {a : Act} {w : World} {Q : Exit → Act → World → Prop} (hgd : o.guard = none) (src dst e : TypeId) (x : Operand) (S : ByteArray) (n : Nat) (ho : o.op = .convert src dst x) (hx : a.eval x = .string S) {u : TypeDesc}
    (hs : P.underlying src = some u) (hd : P.underlying dst = some (.slice e)) (he : P.underlying e = some (.int .u8)) (hn : S.size = n)
    (h : ∀ W', RowAt W' w.heap.size e (bytesV S.data.toList ++ List.replicate (grownCap w n 0 e - n) (.int .u8 0)) → Below w.heap.size w W' → wpList P ops Q rest (a.put o.dst (.slice (some ⟨w.heap.size, 0, none⟩) n (grownCap w n 0 e))) W') : wpList P ops Q (o :: rest) a w := by
  subst hn
  refine wpList_plain hgd fun K hK => ?_
  unfold Oper.wp execOp
  simp only [ho, hx, Sem.run_bind, Sem.run_pure, Result.andThen_ok, Lib.run_convert_string_bytes (P := P) w src dst e S hs hd he]
  have hz : (Lib.bytesCells w e S).toList = bytesV S.data.toList ++ List.replicate (grownCap w S.size 0 e - S.size) (.int .u8 0) := by
    simp only [Lib.bytesCells, Array.toList_append, Array.toList_map, Array.toList_replicate]
    rfl
  refine hK _ _ (h _ ⟨_, _, _, Lib.bytesWorld_at_new w e S, ?_, ?_⟩ (below_bytesWorld w e S))
  · rw [← hz, List.take_length]
  · rw [← hz, if_neg (by omega), Array.length_toList]
    exact Nat.le_refl _
end
end Go.Proofs.YteocdpkenlkmbaaGreatDoor

/- What message.Parse gives of a printed message, whatever stands behind it. Condition: the world's shape; the message is right. -/
namespace Go.Proofs.YteocdpkenlkmbaaGreatDoor
open Go.RowKit IH
set_option maxRecDepth 100000
/-- A message without what its reading tells besides. -/
def toldOf (s : Sta) (L : List Fld) (X : List UInt8) : Told8 := ⟨s, L, X, true, 0, true, 0⟩
theorem isMsg_of {s : Sta} {L : List Fld} {X : List UInt8} {A B : Option Addr} {n c m e : Nat} {w W : World} (fA : SliceIn w w.heap.size 2 A n c (fldsV L)) (fB : SliceIn w w.heap.size 1 B m e (bytesV X)) (h : Below w.heap.size w W) : IsMsg (toldOf s L X) (msgC s (.slice A n c) (.slice B m e)) W :=
  ⟨A, n, c, B, m, e, rfl, (fA.below h).more h.size, (fB.below h).more h.size⟩
theorem parse_of (s : Sta) (L : List Fld) (X : List UInt8) (M : ByteArray) (asks : Bool) (ha : (s.status == 0) = asks) (hr : rightM ⟨s, L, X⟩ M.data.toList = true) (l tail : List UInt8) (hl : l = printM ⟨s, L, X⟩ M.data.toList ++ tail) (n k : Nat) (hk : (printM ⟨s, L, X⟩ M.data.toList).length = k) (g off cap : Nat) (W : World) (hsh : W.ShapedOpen Tryz.prog) (hg : g < W.heap.size) (hM : M.size ≤ 1000000000)
    (hin : SliceIn W W.heap.size 1 (some ⟨g, off, none⟩) n cap (bytesV l)) (hn : n ≤ 100000000) :
    Calls Tryz.prog 31 #[.slice (some ⟨g, off, none⟩) n cap, .bool asks, .string M] W fun e w' => ∃ E, e = .returned (.tuple #[.agg E.toArray, .int .i64 k, .int .i64 0]) ∧ RightC E ∧ (∀ W', Fresh W.heap.size w' W' → IsMsg (toldOf s L X) E W') ∧ Below W.heap.size W w' := by
  refine (mparseT_any asks M g off n cap l W hsh hg hM hin hn).mono ?_
  rintro e w' ⟨h, hb⟩
  have hT : toldM asks M.data.toList l = ⟨s, L, X, true, (printM ⟨s, L, X⟩ M.data.toList).length, true, 0⟩ := by
    rw [← ha, hl]
    exact msg_back (m := ⟨s, L, X⟩) hr tail
  rw [hT] at h
  rcases h with ⟨h0, -⟩ | ⟨-, h0, -⟩ | ⟨-, -, A1, n1, c1, A2, n2, c2, rfl, h1, h2⟩
  · exact absurd rfl h0
  · cases h0
  · exact ⟨_, by rw [← hk]; rfl, msgC_right _ _ _ _ _ _ _, fun W' hf => ⟨_, _, _, _, _, _, rfl, SliceIn.of_own (own_fresh h1 hf), SliceIn.of_own (own_fresh h2 hf)⟩, hb⟩
theorem same_of (s : Sta) (L : List Fld) (X : List UInt8) (hL : L.length ≤ 1000000) (C D : List Value) (W : World) (h : IsMsg (toldOf s L X) C W) (h' : IsMsg (toldOf s L X) D W) : Calls Tryz.prog 27 #[.agg C.toArray, .agg D.toArray] W fun e w' => e = .returned (.bool true) ∧ Below W.heap.size W w' := by
  obtain ⟨A, n, c, A2, n2, c2, rfl, h2, h3⟩ := h
  obtain ⟨A4, n4, c4, A5, n5, c5, rfl, h5, h6⟩ := h'
  exact rsame8_any s L X A A2 A4 A5 n n2 n4 n5 c c2 c4 c5 W h2 h3 h5 h6 (by have := fld_count h2; rw [← this]; exact hL)
end Go.Proofs.YteocdpkenlkmbaaGreatDoor
