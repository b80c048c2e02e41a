/- Walks of layer 3: fields but those of some names. Condition: at most 10^6 fields and names, texts within 10^9 octets. -/
import Derived.Test.YtefoaldpllnijaaDoorFie6
import Derived.Test.YtefoaldpllnijaaDoorClear
namespace Go.Proofs.YtefoaldpllnijaaDoor
open Go.RowKit IH
set_option maxRecDepth 100000
def ofNames (N : List (List UInt8)) (f : Fld) : Bool := N.any fun x => isN f x
theorem withoutL_names (L : List Fld) (N : List (List UInt8)) : withoutL L N = L.filter fun f => !ofNames N f := rfl
theorem withoutN_snoc (L : List Fld) (N : List (List UInt8)) (k : Nat) (f : Fld) (hk : L[k]? = some f) : withoutL (L.take (k + 1)) N = withoutL (L.take k) N ++ if ofNames N f = true then [] else [f] := by
  rw [withoutL_names, withoutL_names, List.take_add_one, hk, List.filter_append]
  cases h : ofNames N f <;> simp [h]
theorem withoutN_none (L : List Fld) (N : List (List UInt8)) (h : L.any (ofNames N) = false) : withoutL L N = L := by
  rw [withoutL_names, List.filter_eq_self]
  intro f hf
  rw [List.any_eq_false] at h
  have := h f hf
  simpa using this
theorem fi_cases {α : Type} (p : α → Bool) (L : List α) : (fi p L = -1 ∧ L.any p = false) ∨ ∃ (i : Nat) (x : α), fi p L = i ∧ L[i]? = some x ∧ p x = true ∧ (L.take i).any p = false := by
  unfold fi
  cases h : L.findIdx? p with
  | none =>
    left
    rw [List.findIdx?_eq_none_iff] at h
    refine ⟨rfl, ?_⟩
    rw [List.any_eq_false]
    intro x hx
    simp [h x hx]
  | some i =>
    right
    obtain ⟨hl, hp, hn⟩ := List.findIdx?_eq_some_iff_getElem.1 h
    refine ⟨i, _, rfl, List.getElem?_eq_getElem hl, hp, ?_⟩
    rw [List.any_eq_false]
    intro x hx
    obtain ⟨j, hj, rfl⟩ := List.mem_iff_getElem.1 hx
    have hj' : j < i := by rw [List.length_take] at hj; omega
    rw [List.getElem_take]
    simpa using hn j hj'
theorem fldsV_set (M : List Fld) (k : Nat) (f : Fld) : ((fldsV M).set (k * 2) (.string ⟨f.1.toArray⟩)).set (k * 2 + 1) (.string ⟨f.2.toArray⟩) = fldsV (M.set k f) := by
  induction M generalizing k with
  | nil => simp [fldsV]
  | cons g M ih =>
    have e : ∀ (g : Fld) M, fldsV (g :: M) = .string ⟨g.1.toArray⟩ :: .string ⟨g.2.toArray⟩ :: fldsV M := fun _ _ => rfl
    cases k with
    | zero => rw [List.set_cons_zero, e, e]; rfl
    | succ k =>
      rw [List.set_cons_succ, e, e, ← ih, show (k + 1) * 2 = k * 2 + 1 + 1 by omega]
      rfl
theorem fld_zero_one : ∀ v ∈ (Value.agg #[.string ⟨#[]⟩, .string ⟨#[]⟩]).cells.toList, v.oneCell' = true := by
  intro v hv
  simp [Value.cells] at hv
  subst hv
  rfl
end Go.Proofs.YtefoaldpllnijaaDoor
