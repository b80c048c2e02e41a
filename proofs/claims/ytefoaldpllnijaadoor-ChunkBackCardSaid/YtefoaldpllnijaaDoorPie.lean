/- Slices of slices of octets in memory: how they read. No condition but as each states. -/
import Derived.Test.YtefoaldpllnijaaDoorKt
import Derived.Test.YtefoaldpllnijaaDoorCk
namespace Go.Proofs.YtefoaldpllnijaaDoor
open Go.RowKit IH
set_option maxRecDepth 100000
/-- Each cell is a slice that reads as a piece. -/
def PiecesR (w : World) (B : Nat) (L : List (List UInt8)) (V : List Value) : Prop :=
  V.length = L.length ∧ ∀ (i : Nat) (l : List UInt8), L[i]? = some l → ∃ (A : Option Addr) (n c : Nat), V[i]? = some (Value.slice A n c) ∧ SliceIn w B 1 A n c (bytesV l)
section
variable {w w' : World} {B B' : Nat} {L : List (List UInt8)} {V : List Value}
theorem PiecesR.keep (h : PiecesR w B L V) (hk : ∀ p : Addr, p.block < B → w'.cell? p = w.cell? p) : PiecesR w' B L V :=
  ⟨h.1, fun i l hl => by obtain ⟨A, n, c, h1, h2⟩ := h.2 i l hl; exact ⟨A, n, c, h1, h2.keep hk⟩⟩
theorem PiecesR.below (h : PiecesR w B L V) (hb : Below B w w') : PiecesR w' B L V := h.keep fun _ hp => hb.cell hp
theorem PiecesR.more (h : PiecesR w B L V) (hB : B ≤ B') : PiecesR w B' L V :=
  ⟨h.1, fun i l hl => by obtain ⟨A, n, c, h1, h2⟩ := h.2 i l hl; exact ⟨A, n, c, h1, h2.more hB⟩⟩
end
/-- A row of one's own that isn't empty. -/
theorem own_some {w : World} {base : Nat} {e : TypeId} {size n : Nat} {v : Value} {xs : List Value} (h : w.ownsRow base e size v n xs) (h0 : 0 < n) :
    ∃ g c, v = .slice (some ⟨g, 0, none⟩) n c ∧ base ≤ g ∧ SliceIn w w.heap.size size (some ⟨g, 0, none⟩) n c xs := by
  rcases h.2 with ⟨h2, h3⟩ | ⟨g, cap, cur, hv, hg, r⟩
  · omega
  · subst hv
    exact ⟨g, cap, rfl, hg, SliceIn.of_own h⟩
theorem own_save {w w' : World} {base g : Nat} {e : TypeId} {size n : Nat} {v : Value} {xs : List Value} (h : w.ownsRow base e size v n xs) (hb : ∀ k, k < w.heap.size → k ≠ g → w'.heap[k]? = w.heap[k]?) (hg : g < base) : w'.ownsRow base e size v n xs := by
  refine ⟨h.1, ?_⟩
  rcases h.2 with h2 | ⟨g', cap, cur, hv, hg', hh, r⟩
  · exact .inl h2
  · exact .inr ⟨g', cap, cur, hv, hg', (hb g' (Array.getElem?_eq_some_iff.1 hh).1 (by omega)).trans hh, r⟩
theorem own_low {w : World} {base base' : Nat} {e : TypeId} {size n : Nat} {v : Value} {xs : List Value} (h : w.ownsRow base e size v n xs) (hb : base' ≤ base) : w.ownsRow base' e size v n xs := by
  refine ⟨h.1, ?_⟩
  rcases h.2 with h2 | ⟨g, cap, cur, hv, hg, hh, r⟩
  · exact .inl h2
  · exact .inr ⟨g, cap, cur, hv, by omega, hh, r⟩
theorem own_past {w w' : World} {base : Nat} {e : TypeId} {size n : Nat} {v : Value} {xs : List Value} {row : Option Nat} (h : w.ownsRow base e size v n xs) (hg : w.grownBy w' row) (hr : ∀ k, row = some k → k < base) : w'.ownsRow base e size v n xs := by
  refine ⟨h.1, ?_⟩
  rcases h.2 with h2 | ⟨g', cap, cur, hv, hg', hh, r⟩
  · exact .inl h2
  · exact .inr ⟨g', cap, cur, hv, hg', (hg.block g' (Array.getElem?_eq_some_iff.1 hh).1 (fun he => by have := hr g' he.symm; omega)).trans hh, r⟩
theorem row_far {w w' : World} {g base size n : Nat} {t e : TypeId} {cs xs : List Value} {v : Value} (h : RowAt w g t cs) (hg : w.grownBy w' v.ownBlock) (hown : w.ownsRow base e size v n xs) (hlt : g < base) : RowAt w' g t cs :=
  h.keep (hg.block g h.lt (fun he => by have := (hown.lt g he.symm).1; omega))
end Go.Proofs.YtefoaldpllnijaaDoor
