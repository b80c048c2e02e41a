/- Arguments that came in, opened: slices of fields. No condition. -/
import Derived.Test.YtpmidmdodjgeeaaDoorFlat
import Derived.ProofKit
import Derived.OpenShut
import Derived.ChangeSame
import Derived.Deep.Slices
import Derived.Deep.Fields
namespace Go.Proofs.YtpmidmdodjgeeaaDoor
open Go.ChangeShapes Go.WideShapes Go.ChangeAt Go.RowKit Go.WideMaps Go.WideElems Go.Deep IH
set_option maxRecDepth 100000

section
variable {H : Type} {enc : TypeId × Value → H} {P : Program} {w : World} {base : Nat} {spare : Nat → Bool} {held : Bool}
/-- A slice of structs whose fields have one cell each: its cells, and each field's own reading. -/
theorem open_fields {t e : TypeId} {fs : Array Field} {fuel : Nat} {cs : List Value} {x : DataW H × List MemPlace} (ht : P.underlying t = some (.slice e)) (he : P.underlying e = some (.struct fs))
    (hone : oneCellFields P fs = true) (hC : P.cellsOf e = fs.size) (h : DataW.trod enc P w base spare held fuel t cs = some x) :
    (cs = [.slice none 0 0]) ∨
    ∃ (a : Addr) (len cap : Nat), cs = [.slice (some a) len cap] ∧ len ≤ cap ∧ cap ≤ maxLen ∧
      ∀ i, i < len → ∃ n, ∀ (j : Nat) (f : Field), fs[j]? = some f → ∃ (v : Value) (y : DataW H × List MemPlace), w.cell? (a.add (i * fs.size + j)) = some v ∧ DataW.trod enc P w base spare held n f.type [v] = some y := by
  rcases open_slice ht h with h0 | ⟨a, len, cap, m, n, D, Pl, hcs, hb, hl, hm, hmm, hx, hi⟩
  · exact .inl h0.1
  · refine .inr ⟨a, len, cap, hcs, hl, hm, fun i him => ?_⟩
    obtain ⟨cs', hc, ht'⟩ := hi i (by rw [hmm]; split <;> omega)
    rw [hC] at hc
    obtain ⟨ys, n', hn', hy, hlen, hyl, hf⟩ := DataW.trod_struct he ht'
    obtain ⟨_, hcl, hat⟩ := World.cells?_some hc
    refine ⟨n', fun j f hj => ?_⟩
    obtain ⟨ho, hk⟩ := hone_of hone j f hj
    have hjl : j < fs.size := (Array.getElem?_eq_some_iff.1 hj).1
    have hcell := hat j hjl
    have hv : cs'[j]? = some (cs'[j]'(by omega)) := List.getElem?_eq_getElem (by omega)
    have h1 := hf j f hj
    rw [ho, hk] at h1
    have hone' : (cs'.drop j).take 1 = [cs'[j]'(by omega)] := by
      rw [List.drop_eq_getElem_cons (by omega)]
      rfl
    rw [hone'] at h1
    have hys : ys[j]? = some (ys[j]'(by omega)) := List.getElem?_eq_getElem (by omega)
    refine ⟨_, _, ?_, h1.trans hys⟩
    rw [← Go.Deep.add_add, hcell, hv]
end

theorem list_each {α : Type} (n : Nat) (Q : Nat → α → Prop) (h : ∀ i, i < n → ∃ t, Q i t) : ∃ L : List α, L.length = n ∧ ∀ i t, L[i]? = some t → Q i t := by
  induction n with
  | zero => exact ⟨[], rfl, fun i t h => by simp at h⟩
  | succ n ih =>
    obtain ⟨L, hL, hQ⟩ := ih fun i hi => h i (by omega)
    obtain ⟨t, ht⟩ := h n (by omega)
    refine ⟨L ++ [t], by simp [hL], fun i u hu => ?_⟩
    rcases Nat.lt_or_ge i n with hi | hi
    · rw [List.getElem?_append_left (by omega)] at hu
      exact hQ i u hu
    · rw [List.getElem?_append_right (by omega), hL] at hu
      have hin : i = n := by
        rcases Nat.eq_zero_or_pos (i - n) with h0 | h0
        · omega
        · rw [List.getElem?_eq_none (by simp; omega)] at hu; cases hu
      subst hin
      simp at hu
      subst hu
      exact ht

theorem plain_addr {w : World} {a : Addr} {v : Value} (h : w.cell? a = some v) : ∃ b off, a = ⟨b, off, none⟩ := by
  obtain ⟨b, off, spot⟩ := a
  have hspot : spot = none := World.cell?_spot h
  subst hspot
  exact ⟨b, off, rfl⟩

section
variable {H : Type} {enc : TypeId × Value → H} {w : World} {base b0 : Nat} {spare : Nat → Bool} {held : Bool} {r : Reach}
theorem open_flds_in {v : Value} {d : DataW H} {p : List MemPlace} (hval : Value.okWide Tryd.prog w r b0 24 v) (h : DataW.Trod enc Tryd.prog w base spare held 24 v d p) :
    ∃ A n c L, v = .slice A n c ∧ SliceIn w w.heap.size 2 A n c (fldsV L) := by
  obtain ⟨a0, len0, cap0, rfl⟩ := okWide_slice Tryd.underlying24 hval
  obtain ⟨fuel, hf⟩ := h
  rcases open_fields Tryd.underlying24 Tryd.underlying44 (by kernel_rfl) (by kernel_rfl) hf with hcs | ⟨x, l, c, hcs, hl, hm, hall⟩
  · simp [Value.cells] at hcs
    obtain ⟨rfl, rfl, rfl⟩ := hcs
    exact ⟨_, _, _, [], rfl, SliceIn.none_ (Nat.zero_le _)⟩
  · simp [Value.cells] at hcs
    obtain ⟨rfl, rfl, rfl⟩ := hcs
    have hone : ∀ i, i < len0 → ∃ t : Fld, ∀ j u, (fldCells t)[j]? = some u → w.cell? (x.add (i * 2 + j)) = some u := by
      intro i hi
      obtain ⟨n, hn⟩ := hall i hi
      obtain ⟨v0, y0, c0, t0⟩ := hn 0 _ rfl
      obtain ⟨v1, y1, c1, t1⟩ := hn 1 _ rfl
      obtain ⟨z0, e0, _, _⟩ := DataW.trod_string Tryd.underlying9 t0
      obtain ⟨z1, e1, _, _⟩ := DataW.trod_string Tryd.underlying9 t1
      simp only [List.cons.injEq, and_true] at e0 e1
      subst e0 e1
      refine ⟨(z0.data.toList, z1.data.toList), fun j u hu => ?_⟩
      have hj : j < 2 := by have := (List.getElem?_eq_some_iff.1 hu).1; simpa [fldCells] using this
      simp only [fldCells, Lib.mk_data] at hu
      have hj2 : j = 0 ∨ j = 1 := by omega
      rcases hj2 with rfl | rfl <;> (simp only [List.getElem?_cons_zero, List.getElem?_cons_succ, Option.some.injEq] at hu; subst hu; assumption)
    obtain ⟨L, hL, hQ⟩ := list_each len0 _ hone
    refine ⟨_, _, _, L, rfl, by rw [fldsV_length, hL], hl, hm, fun h0 => ?_⟩
    obtain ⟨t0, ht0⟩ : ∃ t, L[0]? = some t := ⟨_, List.getElem?_eq_getElem (by omega)⟩
    have hc0 := hQ 0 t0 ht0 0 _ rfl
    obtain ⟨b, off, hx⟩ := plain_addr hc0
    obtain ⟨xb, xo, xs⟩ := x
    have hs : xs = none := by
      unfold Addr.add at hx
      split at hx <;> simp_all
    subst hs
    refine ⟨xb, xo, rfl, World.block_lt_of_cell? w _ (by rw [add_plain] at hc0; exact hc0), fun j u hu => ?_⟩
    have hjl : j < L.length * 2 := by rw [← fldsV_length]; exact (List.getElem?_eq_some_iff.1 hu).1
    obtain ⟨t, ht⟩ : ∃ t, L[j / 2]? = some t := ⟨_, List.getElem?_eq_getElem (by omega)⟩
    have hk : j = j / 2 * 2 + j % 2 := by omega
    obtain ⟨g0, g1⟩ := fldsV_get L (j / 2) t ht
    have hcell : (fldCells t)[j % 2]? = some u := by
      have hm2 : j % 2 = 0 ∨ j % 2 = 1 := by omega
      rcases hm2 with h | h
      · rw [hk, h, Nat.add_zero, g0] at hu
        rw [h]; exact hu
      · rw [hk, h, g1] at hu
        rw [h]; exact hu
    have := hQ (j / 2) t ht (j % 2) u hcell
    rw [add_plain, ← hk] at this
    exact this
end
end Go.Proofs.YtpmidmdodjgeeaaDoor
