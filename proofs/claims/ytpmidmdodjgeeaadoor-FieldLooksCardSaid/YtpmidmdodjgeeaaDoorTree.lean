/- A region that draws its order, walked by a tree of orders: where more than one mover may come next, each of them is walked. Condition: as in the text on plans. -/
import Derived.Test.YtpmidmdodjgeeaaDoorPlan
namespace Go.Proofs.YtpmidmdodjgeeaaDoor
open Go Go.RowKit

inductive PT where
  | done
  | take (i : Nat) (r : PT)
  | node (f : PT)
  | fork (i : Nat) (r : PT) (m : PT)
  | stop
def PT.heads : PT → List Nat
  | .fork i _ m => i :: m.heads
  | _ => []
def PT.depth : PT → Nat
  | .done => 0
  | .take _ r => r.depth + 1
  | .node f => f.depth
  | .fork _ r m => max (r.depth + 1) m.depth
  | .stop => 0
def PT.isFork : PT → Bool
  | .fork _ _ _ => true
  | .stop => true
  | _ => false
def treeOk (md : Region.Mode) (ops : Array Oper) : PT → Array Bool → Bool
  | .done, l => decide (Region.ready md ops l = [])
  | .take i r, l => !r.isFork && (Region.free md ops l i && ((Region.ready md ops l).contains i && treeOk md ops r (l.setIfInBounds i true)))
  | .node f, l => f.isFork && (decide (Region.ready md ops l = f.heads) && (!f.heads.isEmpty && treeOk md ops f l))
  | .fork i r m, l => !r.isFork && (m.isFork && (treeOk md ops r (l.setIfInBounds i true) && treeOk md ops m l))
  | .stop, _ => true
def wpT (P : Program) (ops : Array Oper) (Q : Exit → Act → World → Prop) (S : World → Prop) : PT → Act → World → Prop
  | .done, a, w => Q .normal a w
  | .take i r, a, w => ∃ o v, ops[i]? = some o ∧ YieldsIf P ops S o v a ∧ wpT P ops Q S r (a.put o.dst v) w
  | .node f, a, w => wpT P ops Q S f a w
  | .fork i r m, a, w => wpOp P ops Q i (fun a' w' => S w' ∧ wpT P ops Q S r a' w') a w ∧ wpT P ops Q S m a w
  | .stop, _, _ => True

section
variable {P : Program} {ops : Array Oper} {Q : Exit → Act → World → Prop} {S : World → Prop}
theorem tree_sound {md : Region.Mode} (hs : Region.noSelect ops = true) (hQ : ∀ c a d v w, Q (.panic c) (Act.put a d v) w → Q (.panic c) a w) :
    ∀ (p : PT), (p.isFork = false → ∀ (fuel : Nat) (l : Array Bool) (a : Act) (w : World), p.depth ≤ fuel → treeOk md ops p l = true → S w → wpT P ops Q S p a w → wpAnyH P md ops Q S fuel l a w) ∧
      (p.isFork = true → ∀ (fuel : Nat) (l : Array Bool) (a : Act) (w : World), p.depth ≤ fuel + 1 → treeOk md ops p l = true → S w → wpT P ops Q S p a w → ∀ j ∈ p.heads, wpOp P ops Q j (fun a' w' => S w' ∧ wpAnyH P md ops Q S fuel (l.setIfInBounds j true) a' w') a w) := by
  intro p
  induction p with
  | done =>
    refine ⟨fun _ fuel l a w _ hok _ h => wpAnyH_done (of_decide_eq_true hok) h fuel, fun h => by cases h⟩
  | take i r ih =>
    refine ⟨fun _ fuel l a w hf hok hS h => ?_, fun h => by cases h⟩
    simp only [treeOk, Bool.and_eq_true, Bool.not_eq_true'] at hok
    obtain ⟨h0, h1, h2, h3⟩ := hok
    cases fuel with
    | zero => simp [PT.depth] at hf
    | succ fuel =>
      have hf' : r.depth ≤ fuel := by simpa [PT.depth] using hf
      obtain ⟨o, v, ho, hy, hr⟩ := h
      exact wpAnyH_take ho hs h1 h2 (fun c a w => hQ c a _ _ w) hy hS (ih.1 h0 fuel _ _ w hf' h3 hS hr)
  | node f ih =>
    refine ⟨fun _ fuel l a w hf hok hS h => ?_, fun h => by cases h⟩
    simp only [treeOk, Bool.and_eq_true, decide_eq_true_eq, Bool.not_eq_true'] at hok
    obtain ⟨h0, h1, h2, h3⟩ := hok
    cases fuel with
    | zero =>
      cases f with
      | fork i r m => simp [PT.depth] at hf
      | stop => simp [PT.heads] at h2
      | _ => cases h0
    | succ fuel =>
      refine wpAnyH_all h1 (by intro hh; rw [hh] at h2; simp at h2) fun j hj => ?_
      exact wpOp_mono (fun a' w' h => h) (ih.2 h0 fuel l a w hf h3 hS h j hj)
  | fork i r m ihr ihm =>
    refine ⟨(fun h => by cases h), fun _ fuel l a w hf hok hS h j hj => ?_⟩
    simp only [treeOk, Bool.and_eq_true, Bool.not_eq_true'] at hok
    obtain ⟨h0, h1, h2, h3⟩ := hok
    simp only [PT.depth] at hf
    simp only [PT.heads, List.mem_cons] at hj
    rcases hj with rfl | hj
    · exact wpOp_mono (fun a' w' ⟨hS', h'⟩ => ⟨hS', ihr.1 h0 fuel _ a' w' (by omega) h2 hS' h'⟩) h.1
    · exact ihm.2 h1 fuel l a w (by omega) h3 hS h.2 j hj
  | stop =>
    refine ⟨(fun h => by cases h), fun _ fuel l a w _ _ _ _ j hj => ?_⟩
    simp [PT.heads] at hj

/-- The region, by a tree. -/
theorem wp_region_tree {id : Nat} {a : Act} {w : World} (S : World → Prop) (p : PT) (hm : P.follows .mixedOrders = true)
    (hs : Region.noSelect ops = true) (hl : p.depth ≤ ops.size) (hf : p.isFork = false) (hok : treeOk .any ops p (Array.replicate ops.size false) = true) (hS : S w.drew)
    (h : ∀ w1, Hid (S w1) → wpT P ops (NoPanic Q) S p a w1) : (Code.region id ops true).wp P Q a w :=
  wp_region_noPanic (wp_region_held hm ((tree_sound hs noPanic_hQ p).1 hf _ _ a _ hl hok hS (h _ (Lib.hid hS))))

theorem tree_done {a : Act} {w : World} (h : Q .normal a w) : wpT P ops (NoPanic Q) S .done a w := NoPanic.normal h
theorem tree_stop {a : Act} {w : World} : wpT P ops Q S .stop a w := True.intro
theorem tree_take {i : Nat} {r : PT} {o : Oper} {v : Value} {a : Act} {w : World} (ho : nth ops.toList i = some o) (hw : Region.wanted o (yielded ops a.tmps) = true)
    (hv : ∀ w, S w → (execOp a.eval o).run P w = .ok (.value v) w) (h : wpT P ops Q S r (a.put o.dst v) w) : wpT P ops Q S (.take i r) a w := ⟨o, v, nth_ops ho, .inl ⟨hw, hv⟩, h⟩
theorem tree_skip {i : Nat} {r : PT} {o : Oper} {a : Act} {w : World} (ho : nth ops.toList i = some o) (hw : Region.wanted o (yielded ops a.tmps) = false)
    (h : wpT P ops Q S r (a.put o.dst undef) w) : wpT P ops Q S (.take i r) a w := ⟨o, undef, nth_ops ho, .inr ⟨hw, rfl⟩, h⟩
theorem tree_skipM {i : Nat} {r m : PT} {o : Oper} {a : Act} {w : World} (ho : nth ops.toList i = some o) (hw : Region.wanted o (yielded ops a.tmps) = false)
    (hS : S w) (h : wpT P ops Q S r (a.put o.dst undef) w) (hmore : wpT P ops Q S m a w) : wpT P ops Q S (.fork i r m) a w := by
  refine ⟨?_, hmore⟩
  unfold wpOp
  simp only [nth_ops ho, hw]
  exact ⟨hS, h⟩
theorem tree_move {i : Nat} {r m : PT} {o : Oper} {a : Act} {w : World} (ho : nth ops.toList i = some o) (hw : Region.wanted o (yielded ops a.tmps) = true)
    (h : ∀ K : Act → World → Prop, Shut (∀ a w, S w → (Hid (S w) → wpT P ops Q S r a w) → K a w) → Oper.wp P o a w K Q) (hmore : wpT P ops Q S m a w) : wpT P ops Q S (.fork i r m) a w := by
  refine ⟨?_, hmore⟩
  unfold wpOp
  simp only [nth_ops ho, hw, if_true]
  exact .inl (h _ fun a w hS hr => ⟨hS, hr (Lib.hid hS)⟩)
theorem tree_node {f : PT} {a : Act} {w : World} (h : wpT P ops Q S f a w) : wpT P ops Q S (.node f) a w := h
theorem tree_add {i : Nat} {r : PT} {o : Oper} {a : Act} {w : World} (ho : nth ops.toList i = some o) (hw : Region.wanted o (yielded ops a.tmps) = true)
    (xt yt : TypeId) (x y : Operand) (hop : o.op = .binOp .add xt x y yt) (s t : ByteArray) (hx : a.eval x = .string s) (hy : a.eval y = .string t)
    (hb : s.size + t.size ≤ 9223372036854775807) (h : wpT P ops Q S r (a.put o.dst (.string (s ++ t))) w) : wpT P ops Q S (.take i r) a w := by
  refine tree_take ho hw (fun w' _ => ?_) h
  unfold execOp
  simp only [hop, hx, hy]
  simp [eqGuard, binOp, run_string_add_sum w' _ _ hb]
end
end Go.Proofs.YtpmidmdodjgeeaaDoor
