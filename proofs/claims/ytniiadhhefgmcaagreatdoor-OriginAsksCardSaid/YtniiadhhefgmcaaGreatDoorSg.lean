/- Sg: several texts, one behind the other. -/
import Derived.Test.YtniiadhhefgmcaaGreatDoorTe
import Derived.Test.YtniiadhhefgmcaaGreatDoorKt
import Derived.Test.YtniiadhhefgmcaaGreatDoorCy
/- Layer 8, what later texts take from its laws: messages in memory, what octets say has few fields, parts of a slice whose base is a letter. No condition but as each states. -/
namespace IH
end IH
namespace Go.Proofs.YtniiadhhefgmcaaGreatDoor
open Go.RowKit IH
set_option maxRecDepth 100000
def RightC (C : List Value) : Prop := C.length = 7 ∧ ∀ v ∈ C, v.oneCell' = true
theorem msgC_right (s : Sta) (A A' : Option Addr) (n c n' c' : Nat) : RightC (msgC s (.slice A n c) (.slice A' n' c')) := ⟨rfl, msgC_one _ _ _ _ _ _ _⟩
def IsMsg (T : Told8) (C : List Value) (W : World) : Prop := ∃ A n c A2 n2 c2, C = msgC T.start (.slice A n c) (.slice A2 n2 c2) ∧ SliceIn W W.heap.size 2 A n c (fldsV T.fields) ∧ SliceIn W W.heap.size 1 A2 n2 c2 (bytesV T.body)
theorem isMsg_right (T : Told8) (C : List Value) (W : World) (h : IsMsg T C W) : RightC C := by
  obtain ⟨A, n, c, A2, n2, c2, rfl, -, -⟩ := h
  exact msgC_right _ _ _ _ _ _ _
/-- A message without what its reading tells besides. -/
def toldOf (s : Sta) (L : List Fld) (X : List UInt8) : Told8 := ⟨s, L, X, true, 0, true, 0⟩
/-- Where x[l:] of such a slice begins. -/
def sliceA (A : Option Addr) (c l : Nat) : Option Addr := if c = l then A else A.map (·.add (l * 1))
theorem sub_any {w : World} {B n c : Nat} {A : Option Addr} {L : List UInt8} (hin : SliceIn w B 1 A n c (bytesV L)) (l h : Nat) (hlh : l ≤ h) (hh : h ≤ n) : SliceIn w B 1 (sliceA A c l) (h - l) (c - l) (bytesV ((L.take h).drop l)) := by
  have h0 := hin.sub (a := l) (b := h) hlh hh (sliceA A c l) (fun hlt => by unfold sliceA; rw [if_neg (by have := hin.2.1; omega)])
  rw [Nat.mul_one, Nat.mul_one] at h0
  have e : ((bytesV L).drop l).take (h - l) = bytesV ((L.take h).drop l) := by
    simp only [bytesV, ← List.map_drop, ← List.map_take]
    rw [List.drop_take]
  rw [e] at h0
  exact h0
theorem same_of (s : Sta) (L : List Fld) (X : List UInt8) (hL : L.length ≤ 1000000) (C D : List Value) (W : World) (h : IsMsg (toldOf s L X) C W) (h' : IsMsg (toldOf s L X) D W) : Calls Tryz.prog 21 #[.agg C.toArray, .agg D.toArray] W fun e w' => e = .returned (.bool true) ∧ Below W.heap.size W w' := by
  obtain ⟨A, n, c, A2, n2, c2, rfl, h2, h3⟩ := h
  obtain ⟨A4, n4, c4, A5, n5, c5, rfl, h5, h6⟩ := h'
  exact rsame8_any s L X A A2 A4 A5 n n2 n4 n5 c c2 c4 c5 W h2 h3 h5 h6 (by have := fld_count h2; rw [← this]; exact hL)
end Go.Proofs.YtniiadhhefgmcaaGreatDoor

/- A message in memory, its two lists rows of their own. No condition. -/
namespace Go.Proofs.YtniiadhhefgmcaaGreatDoor
open Go.RowKit IH
set_option maxRecDepth 100000
/-- A typed own row is kept by what is written into a block of another type. -/
theorem own_only_ty {w W : World} {y base size n : Nat} {t e : TypeId} {cs xs : List Value} {v : Value} (h : w.ownsRow base e size v n xs) (ho : Only y w W) (hy : RowAt w y t cs) (hne : t ≠ e) : W.ownsRow base e size v n xs := by
  have hn := ne_type h hy hne
  refine ⟨h.1, ?_⟩
  rcases h.2 with h2 | ⟨g', cap, cur, hv, hg', hh, r⟩
  · exact .inl h2
  · exact .inr ⟨g', cap, cur, hv, hg', (ho.block g' (hn g' (by rw [hv]; rfl))).trans hh, r⟩
/-- A typed own row is kept by an append onto a row of another type. -/
theorem own_grown_ty {w W : World} {base base' size size' n n' : Nat} {t e : TypeId} {xs ys : List Value} {v u : Value} (h : w.ownsRow base e size v n xs) (hu : w.ownsRow base' t size' u n' ys) (hg : w.grownBy W u.ownBlock) (hne : t ≠ e) : W.ownsRow base e size v n xs := by
  refine ⟨h.1, ?_⟩
  rcases h.2 with h2 | ⟨g', cap, cur, hv, hg', hh, r⟩
  · exact .inl h2
  · refine .inr ⟨g', cap, cur, hv, hg', (hg.block g' (Array.getElem?_eq_some_iff.1 hh).1 (fun he => ?_)).trans hh, r⟩
    rcases hu.2 with ⟨h3, _⟩ | ⟨g2, cap2, cur2, hv2, _, hh2, _⟩
    · rw [h3] at he; cases he
    · rw [hv2] at he
      simp only [Value.ownBlock, Option.some.injEq] at he
      subst he
      rw [hh] at hh2
      simp only [Option.some.injEq, Obj.cells.injEq] at hh2
      exact hne hh2.2.1.symm
/-- A message's cells, its lists rows of their own. -/
def MsgO (w : World) (m : Msg) (C : List Value) : Prop := ∃ A n c A2 n2 c2, C = msgC m.start (.slice A n c) (.slice A2 n2 c2) ∧ w.ownsRow 0 74 2 (.slice A n c) n (fldsV m.fields) ∧ w.ownsRow 0 5 1 (.slice A2 n2 c2) n2 (bytesV m.body)
theorem MsgO.below {w W : World} {m : Msg} {C : List Value} (h : MsgO w m C) (hb : Below w.heap.size w W) : MsgO W m C := by
  obtain ⟨A, n, c, A2, n2, c2, h1, h2, h3⟩ := h
  exact ⟨A, n, c, A2, n2, c2, h1, own_below h2 hb, own_below h3 hb⟩
theorem MsgO.only {w W : World} {m : Msg} {C : List Value} {y : Nat} {cs : List Value} (h : MsgO w m C) (ho : Only y w W) (hy : RowAt w y 27 cs) : MsgO W m C := by
  obtain ⟨A, n, c, A2, n2, c2, h1, h2, h3⟩ := h
  exact ⟨A, n, c, A2, n2, c2, h1, own_only_ty h2 ho hy (by decide), own_only_ty h3 ho hy (by decide)⟩
theorem MsgO.grown {w W : World} {m : Msg} {C : List Value} {base n' : Nat} {u : Value} {ys : List Value} (h : MsgO w m C) (hu : w.ownsRow base 27 7 u n' ys) (hg : w.grownBy W u.ownBlock) : MsgO W m C := by
  obtain ⟨A, n, c, A2, n2, c2, h1, h2, h3⟩ := h
  exact ⟨A, n, c, A2, n2, c2, h1, own_grown_ty h2 hu hg (by decide), own_grown_ty h3 hu hg (by decide)⟩
theorem MsgO.right {w : World} {m : Msg} {C : List Value} (h : MsgO w m C) : RightC C := by
  obtain ⟨A, n, c, A2, n2, c2, rfl, -, -⟩ := h
  exact msgC_right _ _ _ _ _ _ _
theorem MsgO.of_msg {w : World} {m : Msg} {C : List Value} (h : MsgO w m C) : IsMsg (toldOf m.start m.fields m.body) C w := by
  obtain ⟨A, n, c, A2, n2, c2, rfl, h2, h3⟩ := h
  exact ⟨A, n, c, A2, n2, c2, rfl, SliceIn.of_own h2, SliceIn.of_own h3⟩
theorem MsgO.same {w : World} {m : Msg} {C D : List Value} (hf : m.fields.length ≤ 1000000) (h : MsgO w m C) (h' : MsgO w m D) : Calls Tryz.prog 21 #[.agg C.toArray, .agg D.toArray] w fun e w' => e = .returned (.bool true) ∧ Below w.heap.size w w' :=
  same_of m.start m.fields m.body hf C D w h.of_msg h'.of_msg
end Go.Proofs.YtniiadhhefgmcaaGreatDoor

/- Slices from a place on; what the document's Told makes as rows of its own. No condition. -/
namespace IH
end IH
namespace Go.Proofs.YtniiadhhefgmcaaGreatDoor
open Go.RowKit IH
set_option maxRecDepth 100000
theorem wpList_slice_l {P : Program} {w : World} {ops : Array Oper} {rest : List Oper} {o : Oper} {a : Act} {Q : Exit → Act → World → Prop} (hgd : o.guard = none) (t e : TypeId) (s lo : Operand) (ho : o.op = .slice t s (some lo) none none)
    (ht : P.underlying t = some (.slice e)) (hsz : (P.info? e).map (·.size) = some 1) (A : Option Addr) (n c l : Nat) (hs : a.eval s = .slice A n c) (hlo : a.eval lo = .int .i64 l) (h1 : l ≤ n)
    (hK : wpList P ops Q rest (a.put o.dst (.slice (sliceA A c l) (n - l) (c - l))) w) : wpList P ops Q (o :: rest) a w := by
  refine wpList_plain hgd fun K hK' => ?_
  have hel : P.elem t = e := by simp [Program.elem, ht]
  have hszE : (sizeOf (P.elem t)).run P w = .ok 1 w := by
    rw [hel]
    cases hq : P.info? e with
    | none => rw [hq] at hsz; simp at hsz
    | some i =>
      rw [hq] at hsz
      simp only [Option.map_some, Option.some.injEq] at hsz
      simp [sizeOf, typeInfo, hq, hsz]
  have hrun := run_slice_l (P := P) (w := w) t A n c (by rw [hel]; exact ht) .i64 (l : Int) (by omega) (by omega)
  have hat := run_sliceAt_slice (P := P) (w := w) t (.slice A n c) (some (.int .i64 l)) none none (by rw [hel]; exact ht)
  unfold Oper.wp execOp
  simp only [ho, hs, hlo, Option.map_some, Option.map_none, Sem.run_bind, Sem.run_pure, Result.andThen_ok, hat, hrun, hszE]
  exact hK' _ _ hK
theorem sub_from {w : World} {B n c : Nat} {A : Option Addr} {L : List UInt8} (hin : SliceIn w B 1 A n c (bytesV L)) (l : Nat) (hl : l ≤ n) : SliceIn w B 1 (sliceA A c l) (n - l) (c - l) (bytesV (L.drop l)) := by
  have hL : L.length = n := by have := hin.1; rw [bytesV_length] at this; omega
  have h := sub_any hin l n hl (Nat.le_refl _)
  rw [List.take_of_length_le (by omega)] at h
  exact h
end Go.Proofs.YtniiadhhefgmcaaGreatDoor

