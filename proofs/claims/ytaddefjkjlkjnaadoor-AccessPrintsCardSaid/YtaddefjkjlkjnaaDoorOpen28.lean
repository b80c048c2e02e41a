/- Arguments that came in, opened: slices of replies. No condition. -/
import Derived.Test.YtaddefjkjlkjnaaDoorAcc1
import Derived.ProofKit
import Derived.OpenShut
import Derived.ChangeSame
import Derived.Deep.Slices
import Derived.Deep.Fields
namespace Go.Proofs.YtaddefjkjlkjnaaDoor
open Go.ChangeShapes Go.WideShapes Go.ChangeAt Go.RowKit Go.WideMaps Go.WideElems Go.Deep IH
set_option maxRecDepth 100000

section
variable {H : Type} {enc : TypeId × Value → H} {P : Program} {w : World} {base : Nat} {spare : Nat → Bool} {held : Bool}
/-- A slice of structs whose fields have one cell each: its cells, and each field's own reading. -/
theorem open_fields {t e : TypeId} {fs : Array Field} {fuel : Nat} {cs : List Value} {x : DataW H × List MemPlace} (ht : P.underlying t = some (.slice e)) (he : P.underlying e = some (.struct fs))
    (hone : oneCellFields P fs = true) (hC : P.cellsOf e = fs.size) (h : DataW.trod enc P w base spare held fuel t cs = some x) :
    (cs = [.slice none 0 0]) ∨
    ∃ (a : Addr) (len cap : Nat), cs = [.slice (some a) len cap] ∧ len ≤ cap ∧ cap ≤ maxLen ∧
      ∀ i, i < len → ∃ n, ∀ (j : Nat) (f : Field), fs[j]? = some f → ∃ (v : Value) (y : DataW H × List MemPlace), w.cell? (a.add (i * fs.size + j)) = some v ∧ DataW.trod enc P w base spare held n f.type [v] = some y := by
  rcases open_slice ht h with h0 | ⟨a, len, cap, m, n, D, Pl, hcs, hb, hl, hm, hmm, hx, hi⟩
  · exact .inl h0.1
  · refine .inr ⟨a, len, cap, hcs, hl, hm, fun i him => ?_⟩
    obtain ⟨cs', hc, ht'⟩ := hi i (by rw [hmm]; split <;> omega)
    rw [hC] at hc
    obtain ⟨ys, n', hn', hy, hlen, hyl, hf⟩ := DataW.trod_struct he ht'
    obtain ⟨_, hcl, hat⟩ := World.cells?_some hc
    refine ⟨n', fun j f hj => ?_⟩
    obtain ⟨ho, hk⟩ := hone_of hone j f hj
    have hjl : j < fs.size := (Array.getElem?_eq_some_iff.1 hj).1
    have hcell := hat j hjl
    have hv : cs'[j]? = some (cs'[j]'(by omega)) := List.getElem?_eq_getElem (by omega)
    have h1 := hf j f hj
    rw [ho, hk] at h1
    have hone' : (cs'.drop j).take 1 = [cs'[j]'(by omega)] := by
      rw [List.drop_eq_getElem_cons (by omega)]
      rfl
    rw [hone'] at h1
    have hys : ys[j]? = some (ys[j]'(by omega)) := List.getElem?_eq_getElem (by omega)
    refine ⟨_, _, ?_, h1.trans hys⟩
    rw [← Go.Deep.add_add, hcell, hv]
end

theorem list_each {α : Type} (n : Nat) (Q : Nat → α → Prop) (h : ∀ i, i < n → ∃ t, Q i t) : ∃ L : List α, L.length = n ∧ ∀ i t, L[i]? = some t → Q i t := by
  induction n with
  | zero => exact ⟨[], rfl, fun i t h => by simp at h⟩
  | succ n ih =>
    obtain ⟨L, hL, hQ⟩ := ih fun i hi => h i (by omega)
    obtain ⟨t, ht⟩ := h n (by omega)
    refine ⟨L ++ [t], by simp [hL], fun i u hu => ?_⟩
    rcases Nat.lt_or_ge i n with hi | hi
    · rw [List.getElem?_append_left (by omega)] at hu
      exact hQ i u hu
    · rw [List.getElem?_append_right (by omega), hL] at hu
      have hin : i = n := by
        rcases Nat.eq_zero_or_pos (i - n) with h0 | h0
        · omega
        · rw [List.getElem?_eq_none (by simp; omega)] at hu; cases hu
      subst hin
      simp at hu
      subst hu
      exact ht

theorem plain_addr {w : World} {a : Addr} {v : Value} (h : w.cell? a = some v) : ∃ b off, a = ⟨b, off, none⟩ := by
  obtain ⟨b, off, spot⟩ := a
  have hspot : spot = none := World.cell?_spot h
  subst hspot
  exact ⟨b, off, rfl⟩

section
variable {H : Type} {enc : TypeId × Value → H} {w : World} {base b0 : Nat} {spare : Nat → Bool} {held : Bool} {r : Reach}
theorem open_told_in {v : Value} {d : DataW H} {p : List MemPlace} (hval : Value.okWide Tryd.prog w r b0 44 v) (h : DataW.Trod enc Tryd.prog w base spare held 44 v d p) :
    ∃ A n c L, v = .slice A n c ∧ SliceIn w w.heap.size 9 A n c (toldsV L) ∧ ∀ t ∈ L, (Lit.int .i64 t.kind).wf = true := by
  obtain ⟨a0, len0, cap0, rfl⟩ := okWide_slice Tryd.underlying44 hval
  obtain ⟨fuel, hf⟩ := h
  rcases open_fields Tryd.underlying44 Tryd.underlying48 (by kernel_rfl) (by kernel_rfl) hf with hcs | ⟨x, l, c, hcs, hl, hm, hall⟩
  · simp [Value.cells] at hcs
    obtain ⟨rfl, rfl, rfl⟩ := hcs
    exact ⟨_, _, _, [], rfl, SliceIn.none_ (Nat.zero_le _), by simp⟩
  · simp [Value.cells] at hcs
    obtain ⟨rfl, rfl, rfl⟩ := hcs
    have hone : ∀ i, i < len0 → ∃ t : Reply, (∀ j u, (toldCells t)[j]? = some u → w.cell? (x.add (i * 9 + j)) = some u) ∧ (Lit.int .i64 t.kind).wf = true := by
      intro i hi
      obtain ⟨n, hn⟩ := hall i hi
      obtain ⟨v0, y0, c0, t0⟩ := hn 0 _ rfl
      obtain ⟨v1, y1, c1, t1⟩ := hn 1 _ rfl
      obtain ⟨v2, y2, c2, t2⟩ := hn 2 _ rfl
      obtain ⟨v3, y3, c3, t3⟩ := hn 3 _ rfl
      obtain ⟨v4, y4, c4, t4⟩ := hn 4 _ rfl
      obtain ⟨v5, y5, c5, t5⟩ := hn 5 _ rfl
      obtain ⟨v6, y6, c6, t6⟩ := hn 6 _ rfl
      obtain ⟨v7, y7, c7, t7⟩ := hn 7 _ rfl
      obtain ⟨v8, y8, c8, t8⟩ := hn 8 _ rfl
      obtain ⟨z0, e0, _, _⟩ := DataW.trod_int Tryd.underlying3 t0
      obtain ⟨z1, e1, _, wf1⟩ := DataW.trod_int Tryd.underlying3 t1
      obtain ⟨z2, e2, _, _⟩ := DataW.trod_int Tryd.underlying3 t2
      obtain ⟨z3, e3, _, _⟩ := DataW.trod_int Tryd.underlying3 t3
      obtain ⟨z4, e4, _, _⟩ := DataW.trod_string Tryd.underlying9 t4
      obtain ⟨z5, e5, _, _⟩ := DataW.trod_string Tryd.underlying9 t5
      obtain ⟨z6, e6, _, _⟩ := DataW.trod_string Tryd.underlying9 t6
      obtain ⟨z7, e7, _, _⟩ := DataW.trod_int Tryd.underlying3 t7
      obtain ⟨z8, e8, _, _⟩ := DataW.trod_int Tryd.underlying3 t8
      simp only [List.cons.injEq, and_true] at e0 e1 e2 e3 e4 e5 e6 e7 e8
      subst e0 e1 e2 e3 e4 e5 e6 e7 e8
      refine ⟨⟨z0, z1, z2, z3, z4.data.toList, z5.data.toList, z6.data.toList, z7, z8⟩, fun j u hu => ?_, wf1⟩
      have hj : j < 9 := by have := (List.getElem?_eq_some_iff.1 hu).1; rw [toldCells_length] at this; exact this
      simp only [toldCells, Lib.mk_data] at hu
      have hj2 : j = 0 ∨ j = 1 ∨ j = 2 ∨ j = 3 ∨ j = 4 ∨ j = 5 ∨ j = 6 ∨ j = 7 ∨ j = 8 := by omega
      rcases hj2 with rfl | rfl | rfl | rfl | rfl | rfl | rfl | rfl | rfl <;> (simp only [List.getElem?_cons_zero, List.getElem?_cons_succ, Option.some.injEq] at hu; subst hu; assumption)
    obtain ⟨L, hL, hQ⟩ := list_each len0 _ hone
    refine ⟨_, _, _, L, rfl, ⟨by rw [toldsV_length, hL], hl, hm, fun h0 => ?_⟩, fun t ht => ?_⟩
    · obtain ⟨t0, ht0⟩ : ∃ t, L[0]? = some t := ⟨_, List.getElem?_eq_getElem (by omega)⟩
      have hc0 := (hQ 0 t0 ht0).1 0 _ rfl
      obtain ⟨b, off, hx⟩ := plain_addr hc0
      obtain ⟨xb, xo, xs⟩ := x
      have hs : xs = none := by
        unfold Addr.add at hx
        split at hx <;> simp_all
      subst hs
      refine ⟨xb, xo, rfl, World.block_lt_of_cell? w _ (by rw [add_plain] at hc0; exact hc0), fun j u hu => ?_⟩
      have hjl : j < L.length * 9 := by rw [← toldsV_length]; exact (List.getElem?_eq_some_iff.1 hu).1
      obtain ⟨t, ht⟩ : ∃ t, L[j / 9]? = some t := ⟨_, List.getElem?_eq_getElem (by omega)⟩
      have hk : j = j / 9 * 9 + j % 9 := by omega
      rw [hk, toldsV, flat_get toldCells 9 toldCells_length L (j / 9) (j % 9) t ht (by omega)] at hu
      have := (hQ (j / 9) t ht).1 (j % 9) u hu
      rw [add_plain, ← hk] at this
      exact this
    · obtain ⟨i, hi⟩ := List.getElem?_of_mem ht
      exact (hQ i t hi).2
end
end Go.Proofs.YtaddefjkjlkjnaaDoor
