/- A struct or an array stored whole into a block known from its head: in a plain region, and as a mover of a drawn one. Condition: the block's cells are known and may be written. -/
import Derived.Test.YtpmidmdodjgeeaaDoorMem
import Derived.Test.YtpmidmdodjgeeaaDoorPlan
namespace Go.Proofs.YtpmidmdodjgeeaaDoor
open Go.RowKit

/-- Nothing but block g may have changed. -/
structure Only (g : Nat) (w w' : World) : Prop where
  os : w'.os = w.os
  tape : w'.tape = w.tape
  output : w'.output = w.output
  size : w'.heap.size = w.heap.size
  block : ∀ k, k ≠ g → w'.heap[k]? = w.heap[k]?
theorem Only.refl (g : Nat) (w : World) : Only g w w := ⟨rfl, rfl, rfl, rfl, fun _ _ => rfl⟩
theorem Only.trans {g : Nat} {a b c : World} (h : Only g a b) (k : Only g b c) : Only g a c :=
  ⟨k.os.trans h.os, k.tape.trans h.tape, k.output.trans h.output, k.size.trans h.size, fun i hi => (k.block i hi).trans (h.block i hi)⟩
theorem Only.setCell (g o : Nat) (w : World) (v : Value) : Only g w (w.setCell ⟨g, o, none⟩ v) :=
  ⟨rfl, rfl, rfl, by simp, fun k hk => Below.heap_setCell w ⟨g, o, none⟩ v k hk⟩
theorem Only.setCells (g : Nat) : ∀ (vs : List Value) (o : Nat) (w : World), Only g w (w.setCells g o vs)
  | [], _, w => Only.refl g w
  | v :: r, o, w => (Only.setCell g o w v).trans (Only.setCells g r (o + 1) _)
theorem Only.below {g B : Nat} {a w w' : World} (h : Only g w w') (hb : Below B a w) (hB : B ≤ g) : Below B a w' :=
  ⟨h.os.trans hb.os, h.tape.trans hb.tape, h.output.trans hb.output, by have := h.size; have := hb.size; omega, fun k hk => (h.block k (by omega)).trans (hb.block k hk)⟩
theorem RowAt.only {g g' : Nat} {e : TypeId} {cs : List Value} {w w' : World} (hr : RowAt w g e cs) (h : Only g' w w') (hn : g ≠ g') : RowAt w' g e cs := hr.keep (h.block g hn)
theorem SliceIn.only {w w' : World} {B size n c g : Nat} {A : Option Addr} {xs : List Value} (hs : SliceIn w B size A n c xs) (h : Only g w w') (hB : B ≤ g) : SliceIn w' B size A n c xs :=
  hs.keep fun p hp => World.cell?_of_block (h.block p.block (by omega))

theorem row_sets {g : Nat} {e : TypeId} : ∀ (vs olds pre : List Value) (w : World), RowAt w g e (pre ++ olds) → olds.length = vs.length → RowAt (w.setCells g pre.length vs) g e (pre ++ vs)
  | [], olds, pre, w, h, hl => by
    obtain rfl : olds = [] := List.eq_nil_of_length_eq_zero hl
    exact h
  | v :: r, [], pre, w, h, hl => by simp at hl
  | v :: r, o :: olds, pre, w, h, hl => by
    have h1 := h.set_ (j := pre.length) (by simp) v
    have e1 : (pre ++ o :: olds).set pre.length v = (pre ++ [v]) ++ olds := by simp
    rw [e1] at h1
    have h2 := row_sets r olds (pre ++ [v]) _ h1 (by simpa using hl)
    have e2 : (pre ++ [v]).length = pre.length + 1 := by simp
    rw [e2] at h2
    have e3 : (pre ++ [v]) ++ r = pre ++ v :: r := by simp
    rw [e3] at h2
    exact h2
theorem row_there {g : Nat} {e : TypeId} {cs : List Value} {w : World} (h : RowAt w g e cs) : w.there g 0 cs.length := fun j hj => by
  rw [Nat.zero_add]
  exact ⟨by rw [h.cell (j := j) (List.getElem?_eq_getElem hj)]; rfl, h.frozen hj⟩

section
variable {P : Program} {ops : Array Oper} {Q : Exit → Act → World → Prop}
theorem wp_store_row {op : Oper} {a : Act} {w : World} {K : Act → World → Prop} (ty : TypeId) (x y : Operand) (ho : op.op = .store ty x y)
    (g : Nat) (e : TypeId) (cs olds : List Value) (hx : a.eval x = .pointer (some ⟨g, 0, none⟩)) (hy : a.eval y = .agg cs.toArray) (hr : RowAt w g e olds) (hl : olds.length = cs.length)
    (hi : (P.info? ty).map (·.size) = some cs.length) (h1 : ∀ v ∈ cs, v.oneCell' = true)
    (h : ∀ w', RowAt w' g e cs → Only g w w' → K (a.put op.dst undef) w') : op.wp P a w K Q := by
  refine wp_store_mid ty x y ho g 0 cs.toArray hx hy (by simpa [hl] using row_there hr) (by simpa using hi) (all_oneCell_toArray h1) ?_
  rw [List.toList_toArray]
  exact h _ (row_sets cs olds [] w hr hl) (Only.setCells g cs 0 w)
/-- In a plain region. -/
theorem wpList_store_row {rest : List Oper} {op : Oper} {a : Act} {w : World} (hgd : op.guard = none) (ty : TypeId) (x y : Operand) (ho : op.op = .store ty x y)
    (g : Nat) (e : TypeId) (cs olds : List Value) (hx : a.eval x = .pointer (some ⟨g, 0, none⟩)) (hy : a.eval y = .agg cs.toArray) (hr : RowAt w g e olds) (hl : olds.length = cs.length)
    (hi : (P.info? ty).map (·.size) = some cs.length) (h1 : ∀ v ∈ cs, v.oneCell' = true)
    (h : ∀ w', RowAt w' g e cs → Only g w w' → wpList P ops Q rest (a.put op.dst undef) w') : wpList P ops Q (op :: rest) a w :=
  wpList_plain hgd fun _ hK => wp_store_row ty x y ho g e cs olds hx hy hr hl hi h1 fun w' h2 h3 => hK _ _ (h w' h2 h3)
end
end Go.Proofs.YtpmidmdodjgeeaaDoor
