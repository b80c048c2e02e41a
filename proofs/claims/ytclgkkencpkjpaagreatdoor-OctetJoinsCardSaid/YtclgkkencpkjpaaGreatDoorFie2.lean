/- Layer 3 in plain Lean, for the walks: the first of a kind in a list; sums of lengths. No condition. -/
import Derived.Test.YtclgkkencpkjpaaGreatDoorFld1
namespace IH
set_option maxRecDepth 100000
/-- Where the first of a kind stands; -1: there is none. -/
def fi {α : Type} (p : α → Bool) (L : List α) : Int := match L.findIdx? p with
  | none => -1
  | some i => (i : Int)
theorem fi_none {α : Type} {p : α → Bool} {L : List α} (h : L.any p = false) : fi p L = -1 := by
  have : L.findIdx? p = none := by
    rw [List.findIdx?_eq_none_iff]
    intro x hx
    rcases hp : p x with _ | _
    · rfl
    · have h2 := List.any_eq_true.2 ⟨x, hx, hp⟩
      rw [h] at h2; cases h2
  unfold fi; rw [this]
theorem fi_hit {α : Type} {p : α → Bool} {L : List α} {k : Nat} {x : α} (hk : L[k]? = some x) (hp : p x = true) (h : (L.take k).any p = false) : fi p L = k := by
  have : L.findIdx? p = some k := by
    obtain ⟨hl, rfl⟩ := List.getElem?_eq_some_iff.1 hk
    rw [List.findIdx?_eq_some_iff_getElem]
    refine ⟨hl, hp, fun j hj => ?_⟩
    intro hpj
    have hm : L[j] ∈ L.take k := by
      rw [List.mem_iff_getElem?]
      exact ⟨j, by rw [List.getElem?_take, if_pos hj]; exact List.getElem?_eq_getElem _⟩
    have := List.any_eq_true.2 ⟨_, hm, hpj⟩
    rw [h] at this; cases this
  unfold fi; rw [this]
theorem any_snoc {α : Type} {p : α → Bool} {L : List α} {k : Nat} {x : α} (hk : L[k]? = some x) (hp : p x = false) (h : (L.take k).any p = false) : (L.take (k + 1)).any p = false := by
  rw [List.take_add_one, hk, List.any_append, h]
  simp [hp]
theorem fi_any {α : Type} (p : α → Bool) (L : List α) : decide (0 ≤ fi p L) = L.any p := by
  unfold fi
  cases h : L.findIdx? p with
  | none =>
    rw [List.findIdx?_eq_none_iff] at h
    have : L.any p = false := by
      rw [List.any_eq_false]
      intro x hx
      simp [h x hx]
    rw [this]; decide
  | some i =>
    obtain ⟨hl, hp, _⟩ := List.findIdx?_eq_some_iff_getElem.1 h
    have : L.any p = true := List.any_eq_true.2 ⟨_, List.getElem_mem hl, hp⟩
    rw [this]
    simp
theorem sizeL_snoc (L : List Fld) (k : Nat) (f : Fld) (hk : L[k]? = some f) : sizeL (L.take (k + 1)) = sizeL (L.take k) + f.1.length + f.2.length + 4 := by
  unfold sizeL
  rw [List.take_add_one, hk]
  simp
  omega
theorem sizeL_bd (M : Nat) (L : List Fld) (h : ∀ f ∈ L, f.1.length ≤ M ∧ f.2.length ≤ M) : sizeL L ≤ L.length * (2 * M + 4) + 2 := by
  induction L with
  | nil => simp [sizeL]
  | cons f L ih =>
    have h1 := h f (by simp)
    have h2 := ih fun g hg => h g (by simp [hg])
    rw [sizeL_cons, List.length_cons, Nat.succ_mul]
    omega
theorem sizeL_mono (L : List Fld) (k : Nat) : sizeL (L.take k) ≤ sizeL L := by
  conv => rhs; rw [← List.take_append_drop k L]
  unfold sizeL
  rw [List.map_append, List.sum_append]
  omega
end IH
