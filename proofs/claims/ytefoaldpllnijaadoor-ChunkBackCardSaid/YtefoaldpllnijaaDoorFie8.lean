/- Walks of layer 3: Without and With. Condition: at most 10^6 fields and names, texts within 10^9 octets. -/
import Derived.Test.YtefoaldpllnijaaDoorFie7
import Derived.Test.YtefoaldpllnijaaDoorKt
import Derived.Deep.CutRange
namespace Go.Proofs.YtefoaldpllnijaaDoor
open Go.RowKit IH
set_option maxRecDepth 100000
theorem own_mono {w : World} {base base' : Nat} {e : TypeId} {size n : Nat} {v : Value} {xs : List Value} (h : w.ownsRow base e size v n xs) (hb : base' ≤ base) : w.ownsRow base' e size v n xs := by
  refine ⟨h.1, ?_⟩
  rcases h.2 with h2 | ⟨g, cap, cur, hv, hg, r⟩
  · exact .inl h2
  · exact .inr ⟨g, cap, cur, hv, by omega, r⟩
theorem without_small {M : Nat} {L : List Fld} (N : List (List UInt8)) (h : smallF M L) : smallF M (withoutL L N) := fun f hf => h f (List.mem_filter.1 hf).1
theorem with1_small {M : Nat} {L : List Fld} {m : Fld} (h : smallF M L) (hm : m.1.length ≤ M ∧ m.2.length ≤ M) : smallF M (with1 L m) := by
  intro f hf
  unfold with1 at hf
  split at hf
  · rcases List.mem_append.1 hf with h1 | h1
    · exact h f h1
    · rw [List.mem_singleton.1 h1]; exact hm
  · rcases List.mem_append.1 hf with h1 | h1
    · rcases List.mem_append.1 h1 with h2 | h2
      · exact h f (List.mem_of_mem_take h2)
      · rw [List.mem_singleton.1 h2]; exact hm
    · exact h f (List.mem_of_mem_drop (List.mem_filter.1 h1).1)
theorem withL_snoc (L K : List Fld) (k : Nat) (m : Fld) (hk : K[k]? = some m) : withL L (K.take (k + 1)) = with1 (withL L (K.take k)) m := by
  unfold withL
  rw [List.take_add_one, hk, List.foldl_append]
  rfl
theorem withL_bd {M : Nat} {L K : List Fld} (h : smallF M L) (hK : smallF M K) : ∀ k, k ≤ K.length → smallF M (withL L (K.take k)) ∧ (withL L (K.take k)).length ≤ L.length + k := by
  intro k
  induction k with
  | zero => intro _; exact ⟨by simpa [withL] using h, by simp [withL]⟩
  | succ k ih =>
    intro hk
    obtain ⟨m, hm⟩ : ∃ m, K[k]? = some m := ⟨_, List.getElem?_eq_getElem (by omega)⟩
    obtain ⟨h1, h2⟩ := ih (by omega)
    rw [withL_snoc L K k m hm]
    have := with1_length (withL L (K.take k)) m
    exact ⟨with1_small h1 (smallF_get hK hm), by omega⟩
theorem with1_none {L : List Fld} {m : Fld} (h : fi (fun f => isN f m.1) L = -1) : with1 L m = L ++ [m] := by
  unfold fi at h
  unfold with1
  cases hq : L.findIdx? (fun f => isN f m.1) with
  | none => rfl
  | some i => rw [hq] at h; simp only at h; omega
theorem with1_some {L : List Fld} {m : Fld} {i : Nat} (h : fi (fun f => isN f m.1) L = i) : with1 L m = L.take i ++ [m] ++ withoutL (L.drop (i + 1)) [m.1] ∧ i < L.length := by
  unfold fi at h
  unfold with1
  cases hq : L.findIdx? (fun f => isN f m.1) with
  | none => rw [hq] at h; simp only at h; omega
  | some j =>
    rw [hq] at h
    have : j = i := by simp only at h; omega
    subst this
    exact ⟨rfl, (List.findIdx?_eq_some_iff_getElem.1 hq).1⟩
theorem own_take {w : World} {base : Nat} {e : TypeId} {g n c : Nat} {O : List Fld} (h : w.ownsRow base e 2 (.slice (some ⟨g, 0, none⟩) n c) n (fldsV O)) (i : Nat) (hi : i ≤ n) : SliceIn w w.heap.size 2 (some ⟨g, 0, none⟩) i c (fldsV (O.take i)) := by
  have hs := (SliceIn.of_own h).sub (a := 0) (b := i) (Nat.zero_le _) hi (some ⟨g, 0, none⟩) (fun _ => by simp [add_plain])
  simp only [Nat.sub_zero, Nat.zero_mul, List.drop_zero] at hs
  rw [fldsV_take] at hs
  exact hs
theorem own_drop {w : World} {base : Nat} {e : TypeId} {g n c : Nat} {O : List Fld} (h : w.ownsRow base e 2 (.slice (some ⟨g, 0, none⟩) n c) n (fldsV O)) (i : Nat) (hi : i ≤ n) (A : Option Addr) (hA : i < n → A = some ⟨g, i * 2, none⟩) : SliceIn w w.heap.size 2 A (n - i) (c - i) (fldsV (O.drop i)) := by
  have hs := (SliceIn.of_own h).sub (a := i) (b := n) hi (Nat.le_refl _) A (fun hlt => by rw [hA hlt]; simp [add_plain])
  rw [fldsV_drop, List.take_of_length_le] at hs
  · exact hs
  · have := h.1
    rw [fldsV_length] at this ⊢
    rw [List.length_drop, Nat.sub_mul]
    omega
end Go.Proofs.YtefoaldpllnijaaDoor
