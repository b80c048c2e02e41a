/- Layer 2's laws: what a turned form says. No condition but as each states. -/
import Derived.Test.YtpmidmdodjgeeaaDoorLaw02c
import Derived.Test.YtpmidmdodjgeeaaDoorOpenArr
import Derived.IntWalk
namespace Go.Proofs.YtpmidmdodjgeeaaDoor
open Go.RowKit IH
set_option maxRecDepth 100000
/-- What a turned form says: its moment just if nothing was turned. -/
theorem turned {mt y m d K : Int} (hM : Moment mt y m d) (hK : K = 0 ∨ (K = 1 ∧ y ≤ 2069) ∨ K = 2) (l : List UInt8) (hl : l = formOf K mt y m d) (k : Nat) (hk : k < l.length) (c : UInt8) :
    (l[k]? = some c → parseL (l.take k ++ [c] ++ l.drop (k + 1)) = (mt, 0)) ∧
    (l[k]? ≠ some c → parseL (l.take k ++ [c] ++ l.drop (k + 1)) = (0, 10) ∨ ((parseL (l.take k ++ [c] ++ l.drop (k + 1))).2 = 0 ∧ (parseL (l.take k ++ [c] ++ l.drop (k + 1))).1 ≠ mt)) := by
  constructor
  · intro h
    have e : l.take k ++ [c] ++ l.drop (k + 1) = l := by
      obtain ⟨h1, h2⟩ := List.getElem?_eq_some_iff.1 h
      rw [List.append_assoc, List.singleton_append, ← h2, ← List.drop_eq_getElem_cons h1, List.take_append_drop]
    rw [e, hl]
    exact parse_form hM hK
  · intro h
    rcases parse_err (l.take k ++ [c] ++ l.drop (k + 1)) with h1 | h1
    · exact .inl h1
    · right
      refine ⟨h1, fun h2 => h ?_⟩
      have h3 : parseL (l.take k ++ [c] ++ l.drop (k + 1)) = (mt, 0) := by rw [← h2, ← h1]
      have hlen : (l.take k ++ [c] ++ l.drop (k + 1)).length = (formOf K mt y m d).length := by rw [← hl]; simp; omega
      have h4 := parse_apart hM (hK.elim .inl fun h => h.elim (fun h => .inr (.inl h.1)) fun h => .inr (.inr h)) _ hlen h3
      rw [← hl] at h4
      rw [← h4, List.append_assoc, List.getElem?_append_right (by simp; omega), List.length_take, Nat.min_eq_left (by omega), Nat.sub_self]
      rfl
theorem wf_bd {n : Int} (h : (Lit.int .i64 n).wf = true) : -9223372036854775808 ≤ n ∧ n ≤ 9223372036854775807 := bounds_i64 h
theorem run_one_c (W : World) (c : UInt8) :
    (convert 22 9 (.slice (some ⟨W.heap.size, 0, none⟩) 1 1)).run Tryd.prog (W.alloc (.cells #[.int .u8 c.toNat] 5)) = .ok (.string ⟨#[c]⟩) (W.alloc (.cells #[.int .u8 c.toNat] 5)) := run_one_str W _ c rfl

end Go.Proofs.YtpmidmdodjgeeaaDoor
