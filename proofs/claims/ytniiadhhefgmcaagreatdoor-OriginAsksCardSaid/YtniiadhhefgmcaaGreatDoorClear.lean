/- clear of a slice's tail in a row of the call's own; a struct of two cells stored into such a row. Condition: the row is the call's own. -/
import Derived.Test.YtniiadhhefgmcaaGreatDoorKt
import Derived.Laws.CopyRow
import Derived.Deep.MidRow
namespace Go.Proofs.YtniiadhhefgmcaaGreatDoor
open Go.RowKit
set_option maxRecDepth 100000
theorem zeroCells_one (z : Array Value) (n : Nat) (h1 : ∀ v ∈ z.toList, v.oneCell' = true) : ∀ v ∈ (Builtin.zeroCells z n).toList, v.oneCell' = true := by
  intro v hv
  simp only [Builtin.zeroCells, Array.toList_map, List.mem_map] at hv
  obtain ⟨i, hi, rfl⟩ := hv
  have hi' : i < n * z.size := by simpa using hi
  have hz : 0 < z.size := by
    rcases Nat.eq_zero_or_pos z.size with h | h
    · rw [h] at hi'; omega
    · exact h
  have hlt : i % z.size < z.size := Nat.mod_lt _ hz
  rw [getElem!_pos z (i % z.size) hlt]
  exact h1 _ (by simp)
theorem zeroCells_size (z : Array Value) (n : Nat) : (Builtin.zeroCells z n).toList.length = n * z.size := by simp [Builtin.zeroCells]
/-- clear(s[k:]): what lies ahead stays. -/
theorem wpList_clear {P : Program} {w : World} {ops : Array Oper} {rest : List Oper} {o : Oper} {a : Act} {Q : Exit → Act → World → Prop} {t e : TypeId} {z : Value} {size bytes : Nat}
    (T : SliceTy P t e z size bytes) (hz1 : ∀ v ∈ z.cells.toList, v.oneCell' = true) (hgd : o.guard = none) (s : Operand) (ho : o.op = .call { callee := .builtin .clear, args := #[s], argTypes := #[t] })
    (base g n cap k c : Nat) (xs : List Value) (hs : a.eval s = .slice (some ⟨g, k * size, none⟩) (n - k) c) (hk : k ≤ n)
    (hown : w.ownsRow base e size (.slice (some ⟨g, 0, none⟩) n cap) n xs)
    (h : ∀ w', w'.ownsRow base e size (.slice (some ⟨g, 0, none⟩) k cap) k (xs.take (k * size)) → w.grownBy w' (some g) → wpList P ops Q rest (a.put o.dst (.tuple #[])) w') :
    wpList P ops Q (o :: rest) a w := by
  obtain ⟨i, hi, hz, hsz, hby⟩ := info_parts T.hi
  have hcut : ∀ W : World, W.ownsRow base e size (.slice (some ⟨g, 0, none⟩) n cap) n xs → W.ownsRow base e size (.slice (some ⟨g, 0, none⟩) k cap) k (xs.take (k * size)) := by
    intro W hW
    refine ⟨?_, ?_⟩
    · rw [List.length_take, hW.1]
      exact Nat.min_eq_left (Nat.mul_le_mul_right _ hk)
    · rcases hW.2 with ⟨h', _⟩ | ⟨g', cap', cur, h', hb, hg, hnc, hcm, hcs, htake⟩
      · cases h'
      · simp only [Value.slice.injEq, Option.some.injEq, Addr.mk.injEq, and_true, true_and] at h'
        obtain ⟨rfl, rfl⟩ := h'
        refine .inr ⟨g, cap, cur, rfl, hb, hg, by omega, hcm, hcs, ?_⟩
        rw [← htake, List.take_take, Nat.min_eq_left (Nat.mul_le_mul_right _ hk)]
  rcases Nat.eq_zero_or_pos (n - k) with h0 | h0
  · have hrun : (Builtin.clear_ #[t] o.type #[.slice (some ⟨g, k * size, none⟩) (n - k) c]).run P w = .ok (.tuple #[]) w := by
      rw [h0]
      simp [Builtin.clear_, run_underlying T.ht]
    refine wpList_plain hgd fun K hK => ?_
    unfold Oper.wp execOp
    simp only [ho, resolve, invoke, builtin, Sem.run_bind, Sem.run_pure, Result.andThen_ok, List.map_toArray, List.map_cons, List.map_nil, hs, hrun]
    exact hK _ _ (h w (hcut w hown) (World.grownBy.refl w _))
  · rcases hown.2 with ⟨h', _⟩ | ⟨g', cap', cur, h', hb, hg, hnc, hcm, hcs, htake⟩
    · cases h'
    · simp only [Value.slice.injEq, Option.some.injEq, Addr.mk.injEq, and_true, true_and] at h'
      obtain ⟨rfl, rfl⟩ := h'
      have hzc : z.cells.size = size := T.hz
      have hle : k * size + (n - k) * size ≤ cur.size := by
        rw [hcs, ← Nat.add_mul]
        exact Nat.mul_le_mul_right _ (by omega)
      have hst := run_storeCells_at P g (k * size) e (Builtin.zeroCells z.cells (n - k)).toList 0 cur w hg (by rw [zeroCells_size, hzc]; simpa using hle) (zeroCells_one _ _ hz1)
      have hrun : (Builtin.clear_ #[t] o.type #[.slice (some ⟨g, k * size, none⟩) (n - k) c]).run P w = .ok (.tuple #[]) (w.setRow g (cur.toList.take (k * size + 0) ++ (Builtin.zeroCells z.cells (n - k)).toList ++ cur.toList.drop (k * size + 0 + (Builtin.zeroCells z.cells (n - k)).toList.length)).toArray) := by
        obtain ⟨q, hq⟩ : ∃ q, n - k = q + 1 := ⟨n - k - 1, by omega⟩
        rw [hq] at hst ⊢
        simp [Builtin.clear_, run_underlying T.ht, zeroValue, typeInfo, hi, hz, hst]
      refine wpList_plain hgd fun K hK => ?_
      unfold Oper.wp execOp
      simp only [ho, resolve, invoke, builtin, Sem.run_bind, Sem.run_pure, Result.andThen_ok, List.map_toArray, List.map_cons, List.map_nil, hs, hrun]
      have hzl := zeroCells_size z.cells (n - k)
      rw [hzc] at hzl
      generalize (Builtin.zeroCells z.cells (n - k)).toList = Z at *
      refine hK _ _ (h _ ⟨?_, .inr ⟨g, cap, _, rfl, hb, setRow_heap w g cur _ e (0, 0) hg, by omega, hcm, ?_, ?_⟩⟩ ⟨rfl, rfl, rfl, ?_, fun j hj hne => setRow_other w g j _ (fun h => hne (by rw [h]))⟩)
      · rw [List.length_take, hown.1]
        exact Nat.min_eq_left (Nat.mul_le_mul_right _ hk)
      · have : cur.toList.length = cur.size := Array.length_toList
        simp only [List.size_toArray, List.length_append, List.length_take, List.length_drop, hzl, Array.length_toList]
        rw [← hcs]
        omega
      · have hks : k * size ≤ cur.size := by omega
        rw [Nat.add_zero, List.append_assoc, List.take_append_of_le_length (by rw [List.length_take, Array.length_toList]; omega), List.take_take, Nat.min_self, ← htake, List.take_take, Nat.min_eq_left (Nat.mul_le_mul_right _ hk)]
      · simp [World.setRow]
theorem set_two (w : World) {base : Nat} {e : TypeId} {g n cap : Nat} {xs : List Value} (h : w.ownsRow base e 2 (.slice (some ⟨g, 0, none⟩) n cap) n xs) (k : Nat) (u v : Value) :
    (w.setCells g (k * 2) [u, v]).ownsRow base e 2 (.slice (some ⟨g, 0, none⟩) n cap) n ((xs.set (k * 2) u).set (k * 2 + 1) v) ∧ w.grownBy (w.setCells g (k * 2) [u, v]) (some g) := by
  have h1 := h.stored (k * 2) u
  have h2 := h1.1.stored (k * 2 + 1) v
  exact ⟨h2.1, h1.2.trans h2.2⟩
end Go.Proofs.YtniiadhhefgmcaaGreatDoor
