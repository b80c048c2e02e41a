/- Walk of layer 3: With. Condition: at most 10^5 fields, texts within 10^9 octets. -/
import Derived.Test.YtefoaldpllnijaaDoorFie8
namespace Go.Proofs.YtefoaldpllnijaaDoor
open Go.RowKit IH
set_option maxRecDepth 100000
theorem row_at {w W : World} (_h : Hid (Below w.heap.size w W)) (e : TypeId) (cs : List Value) : RowAt (W.alloc (.cells cs.toArray e)) W.heap.size e cs := RowAt.new W e cs
theorem row_size {w : World} {g g' : Nat} {e : TypeId} {cs : List Value} (h : RowAt w g e cs) (hg : g = g') : RowAt w g' e cs := hg ▸ h
theorem ne_new {w W : World} (_h : Hid (Below w.heap.size w W)) {base : Nat} {e : TypeId} {size n : Nat} {v : Value} {xs : List Value} (r : W.ownsRow base e size v n xs) : ∀ q, v.ownBlock = some q → q ≠ W.heap.size := fun q hq he => by
  have := (r.lt q hq).2
  omega
theorem ne_old {W W' : World} {e : TypeId} {size n gn : Nat} {v : Value} {xs : List Value} (r : W'.ownsRow W.heap.size e size v n xs) (hg : gn < W.heap.size) : ∀ q, v.ownBlock = some q → q ≠ gn := fun q hq he => by
  have := (r.lt q hq).1
  omega
theorem row_grown {W W' : World} {gn : Nat} {e : TypeId} {cs : List Value} {row : Option Nat} (h : RowAt W gn e cs) (hgr : W.grownBy W' row) (hne : ∀ q, row = some q → q ≠ gn) : RowAt W' gn e cs :=
  h.keep (hgr.block gn h.lt (fun he => hne gn he.symm rfl))
end Go.Proofs.YtefoaldpllnijaaDoor
