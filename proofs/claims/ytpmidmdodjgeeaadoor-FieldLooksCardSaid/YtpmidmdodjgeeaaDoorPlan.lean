/- A region that draws its order, walked in ONE order: what may be taken first is taken, the movers (calls, stores, new memory) come up one at a time. Condition: a property S of the world that holds behind every mover, and under which what is taken first always says the same. -/
import Derived.Test.YtpmidmdodjgeeaaDoorBase
import Derived.Deep.RegionHeld3
import Derived.Laws.Concat
namespace Go.Proofs.YtpmidmdodjgeeaaDoor
open Go Go.RowKit

/-- The operation at a place (written so that it comes out as it stands). -/
def nth {α : Type} : List α → Nat → Option α
  | [], _ => none
  | x :: _, 0 => some x
  | _ :: l, n + 1 => nth l n
theorem nth_eq {α : Type} (l : List α) (i : Nat) : nth l i = l[i]? := by
  induction l generalizing i with
  | nil => rfl
  | cons x l ih => cases i with
    | zero => rfl
    | succ n => exact ih n
theorem nth_ops {ops : Array Oper} {i : Nat} {o : Oper} (h : nth ops.toList i = some o) : ops[i]? = some o := by
  rw [nth_eq] at h; simpa using h

def planOk (md : Region.Mode) (ops : Array Oper) : List (Nat × Bool) → Array Bool → Bool
  | [], listed => decide (Region.ready md ops listed = [])
  | (i, true) :: r, listed => Region.free md ops listed i && ((Region.ready md ops listed).contains i && planOk md ops r (listed.setIfInBounds i true))
  | (i, false) :: r, listed => decide (Region.ready md ops listed = [i]) && planOk md ops r (listed.setIfInBounds i true)

def wpPlan (P : Program) (ops : Array Oper) (Q : Exit → Act → World → Prop) (S : World → Prop) : List (Nat × Bool) → Act → World → Prop
  | [], a, w => Q .normal a w
  | (i, true) :: r, a, w => ∃ o v, ops[i]? = some o ∧ YieldsIf P ops S o v a ∧ wpPlan P ops Q S r (a.put o.dst v) w
  | (i, false) :: r, a, w => wpOp P ops Q i (fun a' w' => S w' ∧ wpPlan P ops Q S r a' w') a w

section
variable {P : Program} {ops : Array Oper} {Q : Exit → Act → World → Prop} {S : World → Prop}

theorem plan_sound {md : Region.Mode} (hs : Region.noSelect ops = true) (hQ : ∀ c a d v w, Q (.panic c) (Act.put a d v) w → Q (.panic c) a w) :
    ∀ (plan : List (Nat × Bool)) (fuel : Nat) (listed : Array Bool) (a : Act) (w : World), plan.length ≤ fuel → planOk md ops plan listed = true → S w →
      wpPlan P ops Q S plan a w → wpAnyH P md ops Q S fuel listed a w := by
  intro plan
  induction plan with
  | nil =>
    intro fuel listed a w _ hok _ h
    exact wpAnyH_done (of_decide_eq_true hok) h fuel
  | cons x r ih =>
    intro fuel listed a w hf hok hS h
    obtain ⟨i, b⟩ := x
    cases fuel with
    | zero => simp at hf
    | succ fuel =>
      have hf' : r.length ≤ fuel := by simpa using hf
      cases b with
      | true =>
        simp only [planOk, Bool.and_eq_true] at hok
        obtain ⟨h1, h2, h3⟩ := hok
        obtain ⟨o, v, ho, hy, hr⟩ := h
        exact wpAnyH_take ho hs h1 h2 (fun c a w => hQ c a _ _ w) hy hS (ih fuel _ _ w hf' h3 hS hr)
      | false =>
        simp only [planOk, Bool.and_eq_true, decide_eq_true_eq] at hok
        obtain ⟨h1, h3⟩ := hok
        refine wpAnyH_all h1 (by simp) fun j hj => ?_
        obtain rfl : j = i := by simpa using hj
        exact wpOp_mono (fun a' w' ⟨hS', h'⟩ => ⟨hS', ih fuel _ a' w' hf' h3 hS' h'⟩) h

theorem noPanic_hQ {Q : Exit → Act → World → Prop} : ∀ c a d v w, NoPanic Q (.panic c) (Act.put a d v) w → NoPanic Q (.panic c) a w := fun _ _ _ _ _ h => (h : False).elim

/-- The region, by a plan. -/
theorem wp_region_plan {id : Nat} {a : Act} {w : World} (S : World → Prop) (plan : List (Nat × Bool)) (hm : P.follows .mixedOrders = true)
    (hs : Region.noSelect ops = true) (hl : plan.length = ops.size) (hok : planOk .any ops plan (Array.replicate ops.size false) = true) (hS : S w.drew)
    (h : ∀ w1, Hid (S w1) → wpPlan P ops (NoPanic Q) S plan a w1) : (Code.region id ops true).wp P Q a w :=
  wp_region_noPanic (wp_region_held hm (plan_sound hs noPanic_hQ plan _ _ a _ (by omega) hok hS (h _ (Lib.hid hS))))

theorem plan_done {a : Act} {w : World} (h : Q .normal a w) : wpPlan P ops (NoPanic Q) S [] a w := NoPanic.normal h
/-- A closed string's length. -/
theorem mk_size (a : Array UInt8) : (ByteArray.mk a).size = a.size := rfl
/-- Taken first: what it leaves in every world that meets S. -/
theorem plan_take {i : Nat} {r : List (Nat × Bool)} {o : Oper} {v : Value} {a : Act} {w : World} (ho : nth ops.toList i = some o) (hw : Region.wanted o (yielded ops a.tmps) = true)
    (hv : ∀ w, S w → (execOp a.eval o).run P w = .ok (.value v) w) (h : wpPlan P ops Q S r (a.put o.dst v) w) : wpPlan P ops Q S ((i, true) :: r) a w := ⟨o, v, nth_ops ho, .inl ⟨hw, hv⟩, h⟩
/-- Not wanted: its guard says no. -/
theorem plan_skip {i : Nat} {r : List (Nat × Bool)} {o : Oper} {a : Act} {w : World} (ho : nth ops.toList i = some o) (hw : Region.wanted o (yielded ops a.tmps) = false)
    (h : wpPlan P ops Q S r (a.put o.dst undef) w) : wpPlan P ops Q S ((i, true) :: r) a w := ⟨o, undef, nth_ops ho, .inr ⟨hw, rfl⟩, h⟩
theorem plan_skipM {i : Nat} {r : List (Nat × Bool)} {o : Oper} {a : Act} {w : World} (ho : nth ops.toList i = some o) (hw : Region.wanted o (yielded ops a.tmps) = false)
    (hS : S w) (h : wpPlan P ops Q S r (a.put o.dst undef) w) : wpPlan P ops Q S ((i, false) :: r) a w := by
  unfold wpPlan wpOp
  simp only [nth_ops ho, hw]
  exact ⟨hS, h⟩
/-- A mover: its own goal, behind a letter K. -/
theorem plan_move {i : Nat} {r : List (Nat × Bool)} {o : Oper} {a : Act} {w : World} (ho : nth ops.toList i = some o) (hw : Region.wanted o (yielded ops a.tmps) = true)
    (h : ∀ K : Act → World → Prop, Shut (∀ a w, S w → (Hid (S w) → wpPlan P ops Q S r a w) → K a w) → Oper.wp P o a w K Q) : wpPlan P ops Q S ((i, false) :: r) a w := by
  unfold wpPlan wpOp
  simp only [nth_ops ho, hw, if_true]
  exact .inl (h _ fun a w hS hr => ⟨hS, hr (Lib.hid hS)⟩)
/-- Two strings put together. -/
theorem plan_add {i : Nat} {r : List (Nat × Bool)} {o : Oper} {a : Act} {w : World} (ho : nth ops.toList i = some o) (hw : Region.wanted o (yielded ops a.tmps) = true)
    (xt yt : TypeId) (x y : Operand) (hop : o.op = .binOp .add xt x y yt) (s t : ByteArray) (hx : a.eval x = .string s) (hy : a.eval y = .string t)
    (hb : s.size + t.size ≤ 9223372036854775807) (h : wpPlan P ops Q S r (a.put o.dst (.string (s ++ t))) w) : wpPlan P ops Q S ((i, true) :: r) a w := by
  refine plan_take ho hw (fun w' _ => ?_) h
  unfold execOp
  simp only [hop, hx, hy]
  simp [eqGuard, binOp, run_string_add_sum w' _ _ hb]
end
end Go.Proofs.YtpmidmdodjgeeaaDoor
