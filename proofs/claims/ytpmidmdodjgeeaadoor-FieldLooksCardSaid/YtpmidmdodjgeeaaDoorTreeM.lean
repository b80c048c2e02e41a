/- Appends among the movers of a drawn region. Condition: the row is the call's own. -/
import Derived.Test.YtpmidmdodjgeeaaDoorTree
import Derived.Test.YtpmidmdodjgeeaaDoorMem
namespace Go.Proofs.YtpmidmdodjgeeaaDoor
open Go.RowKit
theorem wp_appS {P : Program} {w : World} {o : Oper} {a : Act} {K : Act → World → Prop} {Q : Exit → Act → World → Prop} {t e : TypeId} {z : Value} {size bytes : Nat} (T : SliceTy P t e z size bytes) (s x : Operand) (ho : o.op = .call { callee := .builtin .append, args := #[s, x], argTypes := #[t, t] })
    (base : Nat) (v : Value) (n : Nat) (xs : List Value) (hs : a.eval s = v) (hown : w.ownsRow base e size v n xs)
    (B : Nat) (A : Option Addr) (m c : Nat) (news : List Value) (hx : a.eval x = .slice A m c) (hr : SliceIn w B size A m c news) (h1 : ∀ u ∈ news, u.oneCell' = true)
    (hb : (n + m) * bytes ≤ 140737488355328) (hm : n + m ≤ maxLen) (hbase : base ≤ w.heap.size)
    (h : ∀ v' w', w'.ownsRow base e size v' (n + m) (xs ++ news) → w.grownBy w' v.ownBlock → K (a.put o.dst v') w') : o.wp P a w K Q := by
  obtain ⟨i, hi, hz, hsz, hby⟩ := info_parts T.hi
  rcases A with _ | ad
  · have hm0 : m = 0 := by
      rcases Nat.eq_zero_or_pos m with h0 | h0
      · exact h0
      · obtain ⟨b, off, h, _⟩ := hr.2.2.2 h0; cases h
    subst hm0
    have hn : news = [] := List.eq_nil_of_length_eq_zero (by simpa using hr.1)
    subst hn
    have hrun : (Builtin.append_ #[t, t] o.type #[v, .slice none 0 c]).run P w = .ok v w := by
      rcases hown.2 with ⟨rfl, rfl⟩ | ⟨g, cap, cur, rfl, _, _, hnc, _⟩
      · simp [Builtin.append_, run_underlying T.ht, sizeOf, typeInfo, hi, Builtin.lenOf, Builtin.firstCells]
      · simp [Builtin.append_, run_underlying T.ht, sizeOf, typeInfo, hi, Builtin.lenOf, Builtin.firstCells, hnc, storeCells]
    unfold Oper.wp execOp
    simp only [ho, resolve, invoke, builtin, Sem.run_bind, Sem.run_pure, Result.andThen_ok, List.map_toArray, List.map_cons, List.map_nil, hs, hx, hrun]
    exact h v w (by simpa using hown) (World.grownBy.refl w _)
  · refine wp_append_own w s x t ho base e i z size bytes T.ht hi hz hsz hby T.hz T.h0 v n xs hs hown ad m c news hx hr.1 ?_ h1 hm hb hbase (fun v' w' h2 h3 _ => h v' w' h2 h3)
    intro j u hu
    rcases Nat.eq_zero_or_pos m with h0 | h0
    · subst h0
      have hn : news = [] := List.eq_nil_of_length_eq_zero (by simpa using hr.1)
      subst hn
      simp at hu
    · obtain ⟨b, off, h, _, hc⟩ := hr.2.2.2 h0
      injection h with h
      subst h
      rw [add_plain]
      exact hc j u hu
end Go.Proofs.YtpmidmdodjgeeaaDoor
