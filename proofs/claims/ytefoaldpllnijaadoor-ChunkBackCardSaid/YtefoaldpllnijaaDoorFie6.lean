/- Walks of layer 3: a copy of fields; the closures of Without and With, and what the library's search makes of them. Condition: at most 10^6 fields and names, texts within 10^9 octets. -/
import Derived.Test.YtefoaldpllnijaaDoorFie5
import Derived.Laws.Cover3
namespace Go.Proofs.YtefoaldpllnijaaDoor
open Go.RowKit IH
set_option maxRecDepth 100000
theorem eql_slice_nil {P : Program} (w : World) (t e : TypeId) (a : Option Addr) (l c : Nat) (h : P.underlying t = some (.slice e)) : (binOp .eql t (.slice a l c) (.slice none 0 0)).run P w = .ok (.bool a.isNone) w := by
  simp only [binOp]
  simp [run_equal_slice_nil w t e a l c h]
def smallS (M : Nat) (N : List (List UInt8)) : Prop := ∀ x ∈ N, x.length ≤ M
theorem str_at {w : World} {B n c : Nat} {A : Option Addr} {L : List (List UInt8)} (h : SliceIn w B 1 A n c (strsV L)) {k : Nat} {x : List UInt8} (hk : L[k]? = some x) :
    ∃ b off, A = some ⟨b, off, none⟩ ∧ b < B ∧ w.cell? ⟨b, off + k, none⟩ = some (.string ⟨x.toArray⟩) := by
  obtain ⟨h1, h2, h3, h4⟩ := h
  have hkl : k < L.length := (List.getElem?_eq_some_iff.1 hk).1
  rw [strsV_length] at h1
  obtain ⟨b, off, rfl, hb, hc⟩ := h4 (by omega)
  exact ⟨b, off, rfl, hb, hc _ _ (by rw [strsV_get, hk]; rfl)⟩
theorem str_count {w : World} {B n c : Nat} {A : Option Addr} {L : List (List UInt8)} (h : SliceIn w B 1 A n c (strsV L)) : L.length = n := by
  have := h.1
  rw [strsV_length] at this
  omega
end Go.Proofs.YtefoaldpllnijaaDoor
