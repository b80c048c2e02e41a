/- A slice of fields in memory: its cells, its parts. No condition but as each states. -/
import Derived.Test.YtclgkkencpkjpaaGreatDoorKt
import Derived.Test.YtclgkkencpkjpaaGreatDoorFld1
namespace Go.Proofs.YtclgkkencpkjpaaGreatDoor
open Go.RowKit IH
set_option maxRecDepth 100000
def fldCells (f : Fld) : List Value := [.string ⟨f.1.toArray⟩, .string ⟨f.2.toArray⟩]
def fldsV (L : List Fld) : List Value := L.flatMap fldCells
theorem fldsV_length (L : List Fld) : (fldsV L).length = L.length * 2 := by
  induction L with
  | nil => rfl
  | cons f L ih => rw [fldsV, List.flatMap_cons, List.length_append, ← fldsV, ih]; simp [fldCells]; omega
theorem fldsV_append (a b : List Fld) : fldsV (a ++ b) = fldsV a ++ fldsV b := by simp [fldsV]
theorem fldsV_drop (L : List Fld) (k : Nat) : (fldsV L).drop (k * 2) = fldsV (L.drop k) := by
  induction k generalizing L with
  | zero => simp
  | succ k ih =>
    cases L with
    | nil => simp [fldsV]
    | cons f L =>
      rw [List.drop_succ_cons, ← ih, show (k + 1) * 2 = 2 + k * 2 by omega, ← List.drop_drop]
      rfl
theorem fldsV_take (L : List Fld) (k : Nat) : (fldsV L).take (k * 2) = fldsV (L.take k) := by
  induction k generalizing L with
  | zero => simp [fldsV]
  | succ k ih =>
    cases L with
    | nil => simp [fldsV]
    | cons f L =>
      have e : fldsV (f :: L) = .string ⟨f.1.toArray⟩ :: .string ⟨f.2.toArray⟩ :: fldsV L := rfl
      have e2 : fldsV (f :: L.take k) = .string ⟨f.1.toArray⟩ :: .string ⟨f.2.toArray⟩ :: fldsV (L.take k) := rfl
      rw [List.take_succ_cons, e, e2, ← ih, show (k + 1) * 2 = k * 2 + 1 + 1 by omega, List.take_succ_cons, List.take_succ_cons]
theorem fldsV_get (L : List Fld) (k : Nat) (f : Fld) (h : L[k]? = some f) : (fldsV L)[k * 2]? = some (.string ⟨f.1.toArray⟩) ∧ (fldsV L)[k * 2 + 1]? = some (.string ⟨f.2.toArray⟩) := by
  obtain ⟨hk, rfl⟩ := List.getElem?_eq_some_iff.1 h
  have e : fldsV (L.drop k) = .string ⟨(L[k]).1.toArray⟩ :: .string ⟨(L[k]).2.toArray⟩ :: fldsV (L.drop (k + 1)) := by rw [List.drop_eq_getElem_cons hk]; rfl
  rw [← fldsV_drop] at e
  constructor
  · have := congrArg (·[0]?) e
    simpa [List.getElem?_drop] using this
  · have := congrArg (·[1]?) e
    simpa [List.getElem?_drop] using this
theorem fldsV_one (L : List Fld) : ∀ u ∈ fldsV L, u.oneCell' = true := by
  intro u hu
  obtain ⟨t, _, ht⟩ := List.mem_flatMap.1 hu
  simp [fldCells] at ht
  rcases ht with rfl | rfl <;> rfl
theorem fld_ty : SliceTy Tryz.prog 63 134 (.agg #[.string ⟨#[]⟩, .string ⟨#[]⟩]) 2 32 := ⟨Tryz.underlying63, by kernel_rfl, rfl, by decide⟩
/-- A field of a slice: its cells. -/
theorem fld_at {w : World} {B n c : Nat} {A : Option Addr} {L : List Fld} (h : SliceIn w B 2 A n c (fldsV L)) {k : Nat} {f : Fld} (hk : L[k]? = some f) :
    ∃ b off, A = some ⟨b, off, none⟩ ∧ b < B ∧ w.cell? ⟨b, off + k * 2, none⟩ = some (.string ⟨f.1.toArray⟩) ∧ w.cell? ⟨b, off + k * 2 + 1, none⟩ = some (.string ⟨f.2.toArray⟩) := by
  obtain ⟨h1, h2, h3, h4⟩ := h
  have hkl : k < L.length := (List.getElem?_eq_some_iff.1 hk).1
  rw [fldsV_length] at h1
  obtain ⟨b, off, rfl, hb, hc⟩ := h4 (by omega)
  obtain ⟨g1, g2⟩ := fldsV_get L k f hk
  exact ⟨b, off, rfl, hb, hc _ _ g1, by rw [Nat.add_assoc]; exact hc _ _ g2⟩
theorem fld_count {w : World} {B n c : Nat} {A : Option Addr} {L : List Fld} (h : SliceIn w B 2 A n c (fldsV L)) : L.length = n := by
  have := h.1
  rw [fldsV_length] at this
  omega
/-- Names and values within bounds. -/
def smallF (M : Nat) (L : List Fld) : Prop := ∀ f ∈ L, f.1.length ≤ M ∧ f.2.length ≤ M
theorem smallF_get {M : Nat} {L : List Fld} (h : smallF M L) {k : Nat} {f : Fld} (hk : L[k]? = some f) : f.1.length ≤ M ∧ f.2.length ≤ M := h f (List.mem_of_getElem? hk)
end Go.Proofs.YtclgkkencpkjpaaGreatDoor
