/- An append onto a row that a conversion made: '[]byte(s)', whose mark lies behind its last cell. Condition: the row's cells are known, and none of them is frozen. -/
import Derived.Test.YteocdpkenlkmbaaGreatDoorRb
import Derived.Test.YteocdpkenlkmbaaGreatDoorKt
namespace Go.Proofs.YteocdpkenlkmbaaGreatDoor
open Go.RowKit
set_option maxRecDepth 100000
section
variable {P : Program} {W : World} {t e : TypeId} {z : Value} {bytes : Nat}
theorem run_append_row (T : SliceTy P t e z 1 bytes) (ty : TypeId) (g0 n cap : Nat) (xs zs : List Value) (hr : RowAt W g0 e (xs ++ zs)) (hx : xs.length = n) (hc : n + zs.length = cap) (hcm : cap ≤ maxLen)
    (B : Nat) (A : Option Addr) (m c : Nat) (news : List Value) (hs : SliceIn W B 1 A m c news) (h1 : ∀ u ∈ news, u.oneCell' = true) (hb : (n + m) * bytes ≤ 140737488355328) (hm : n + m ≤ maxLen) :
    ∃ g cap' w', (Builtin.append_ #[t, t] ty #[.slice (some ⟨g0, 0, none⟩) n cap, .slice A m c]).run P W = .ok (.slice (some ⟨g, 0, none⟩) (n + m) cap') w' ∧ SliceIn w' w'.heap.size 1 (some ⟨g, 0, none⟩) (n + m) cap' (xs ++ news) ∧ g < w'.heap.size ∧ (∀ (B : Nat) (a : World), Below B a W → B ≤ g0 → Below B a w') := by
  obtain ⟨i, hi, hz, hsz, hby⟩ := info_parts T.hi
  have hfront : ∀ j u, xs[j]? = some u → W.cell? ⟨g0, j, none⟩ = some u := fun j u hu => hr.cell (by rw [List.getElem?_append_left (List.getElem?_eq_some_iff.1 hu).1]; exact hu)
  rcases A with _ | ad
  · have hm0 : m = 0 := by
      rcases Nat.eq_zero_or_pos m with h0 | h0
      · exact h0
      · obtain ⟨b, off, h, _⟩ := hs.2.2.2 h0; cases h
    subst hm0
    have hn : news = [] := List.eq_nil_of_length_eq_zero (by simpa using hs.1)
    subst hn
    refine ⟨g0, cap, W, ?_, ?_, hr.lt, fun B a h _ => h⟩
    · have hle : n ≤ cap := by omega
      simp [Builtin.append_, run_underlying T.ht, sizeOf, typeInfo, hi, Builtin.lenOf, Builtin.firstCells, hle, storeCells]
    · exact ⟨by simp [hx], by omega, hcm, fun _ => ⟨g0, 0, rfl, hr.lt, fun j u hu => by rw [Nat.zero_add]; exact hfront j u (by simpa using hu)⟩⟩
  · have hcells : ∀ j u, news[j]? = some u → W.cell? (ad.add j) = some u := by
      intro j u hu
      rcases Nat.eq_zero_or_pos m with h0 | h0
      · subst h0
        have hn : news = [] := List.eq_nil_of_length_eq_zero (by simpa using hs.1)
        subst hn
        simp at hu
      · obtain ⟨b, off, h, _, hcc⟩ := hs.2.2.2 h0
        injection h with h
        subst h
        rw [add_plain]
        exact hcc j u hu
    have hl : news.length = m * 1 := hs.1
    by_cases hroom : n + m ≤ cap
    · have hf := run_firstCells_some (P := P) W 1 m ad m c news hl hcells
      have hsplit : xs ++ zs = xs ++ (zs.take m ++ zs.drop m) := by rw [List.take_append_drop]
      have hr2 := hr
      rw [hsplit] at hr2
      have hst := run_storeCells_cells (P := P) g0 n news 0 W (fun j hj => by
          have hlt : n + 0 + j < (xs ++ zs).length := by rw [List.length_append]; omega
          rw [hr.cell (j := n + 0 + j) (List.getElem?_eq_getElem hlt)]; rfl)
        (fun j hj => hr.frozen (by rw [List.length_append]; omega)) h1
      have hrow := row_sets_mid news (zs.take m) xs (zs.drop m) W hr2 (by rw [List.length_take]; omega)
      rw [hx] at hrow
      have ho := Only.setCells g0 news n W
      simp only [Nat.add_zero] at hst
      refine ⟨g0, cap, W.setCells g0 n news, ?_, ?_, hrow.lt, fun B a h hB => ho.below h hB⟩
      · simp [Builtin.append_, run_underlying T.ht, sizeOf, typeInfo, hi, hsz, Builtin.lenOf, hroom, hf, Addr.add_lit, hst]
      · refine ⟨by rw [List.length_append]; omega, hroom, hcm, fun _ => ⟨g0, 0, rfl, hrow.lt, fun j u hu => ?_⟩⟩
        rw [Nat.zero_add]
        refine hrow.cell ?_
        rw [← List.append_assoc, List.getElem?_append_left (List.getElem?_eq_some_iff.1 hu).1]
        exact hu
    · have hbb : (n + m) * i.bytes ≤ 140737488355328 := by rw [hby]; exact hb
      have hr2 := run_append_grow (P := P) W t ty e i z T.ht hi hz ⟨g0, 0, none⟩ n cap xs (by rw [hsz]; omega) (fun j u hu => by rw [add_plain, Nat.zero_add]; exact hfront j u hu) ad m c news (by rw [hsz]; exact hl) hcells (by omega) (by simp only [maxLen] at hm; omega) (growslice_fits (by omega) hbb)
      have hge := grownCap_ge W (n + m) cap e
      have hcm2 := grownCap_le_maxLen W (n + m) cap e hm
      have hnew := RowAt.new W.drew e (xs ++ news ++ (Builtin.zeroCells z.cells (grownCap W (n + m) cap e - (n + m))).toList)
      have hsame : (xs ++ news ++ (Builtin.zeroCells z.cells (grownCap W (n + m) cap e - (n + m))).toList).toArray = xs.toArray ++ news.toArray ++ Builtin.zeroCells z.cells (grownCap W (n + m) cap e - (n + m)) := by
        apply Array.ext'
        simp
      rw [hsame] at hnew
      refine ⟨W.heap.size, _, _, hr2, ?_, hnew.lt, fun B a h hB => ((below_drewN h 1).alloc (by have := hr.lt; show B ≤ W.heap.size; omega) _)⟩
      refine ⟨by rw [List.length_append]; omega, hge, hcm2, fun _ => ⟨W.heap.size, 0, rfl, hnew.lt, fun j u hu => ?_⟩⟩
      rw [Nat.zero_add]
      refine hnew.cell ?_
      rw [List.getElem?_append_left (List.getElem?_eq_some_iff.1 hu).1]
      exact hu
theorem wpList_append_row {ops : Array Oper} {rest : List Oper} {o : Oper} {a : Act} {Q : Exit → Act → World → Prop} (T : SliceTy P t e z 1 bytes) (hgd : o.guard = none) (s x : Operand) (ho : o.op = .call { callee := .builtin .append, args := #[s, x], argTypes := #[t, t] })
    (g0 n cap : Nat) (xs zs : List Value) (hv : a.eval s = .slice (some ⟨g0, 0, none⟩) n cap) (hr : RowAt W g0 e (xs ++ zs)) (hx : xs.length = n) (hc : n + zs.length = cap) (hcm : cap ≤ maxLen)
    (B : Nat) (A : Option Addr) (m c : Nat) (news : List Value) (hu : a.eval x = .slice A m c) (hs : SliceIn W B 1 A m c news) (h1 : ∀ u ∈ news, u.oneCell' = true) (hb : (n + m) * bytes ≤ 140737488355328) (hm : n + m ≤ maxLen)
    (h : ∀ g cap' w', SliceIn w' w'.heap.size 1 (some ⟨g, 0, none⟩) (n + m) cap' (xs ++ news) → g < w'.heap.size → (∀ (B : Nat) (a : World), Below B a W → B ≤ g0 → Below B a w') → wpList P ops Q rest (a.put o.dst (.slice (some ⟨g, 0, none⟩) (n + m) cap')) w') :
    wpList P ops Q (o :: rest) a W := by
  refine wpList_plain hgd fun K hK => ?_
  obtain ⟨g, cap', w', hrun, h2, h3, h4⟩ := run_append_row T o.type g0 n cap xs zs hr hx hc hcm B A m c news hs h1 hb hm
  unfold Oper.wp execOp
  simp only [ho, resolve, invoke, builtin, Sem.run_bind, Sem.run_pure, Result.andThen_ok, List.map_toArray, List.map_cons, List.map_nil, hv, hu, hrun]
  exact hK _ _ (h g cap' w' h2 h3 h4)
end
end Go.Proofs.YteocdpkenlkmbaaGreatDoor
