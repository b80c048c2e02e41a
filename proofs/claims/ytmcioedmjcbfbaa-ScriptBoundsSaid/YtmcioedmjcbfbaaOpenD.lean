/- Slices of deeds that came in, opened: structs with slices of their own. No condition. -/
import Derived.Test.YtmcioedmjcbfbaaScr33
import Derived.ProofKit
import Derived.OpenShut
import Derived.ChangeSame
import Derived.Deep.Slices
import Derived.Deep.Fields
namespace Go.Proofs.Ytmcioedmjcbfbaa
open Go.ChangeShapes Go.WideShapes Go.ChangeAt Go.RowKit Go.WideMaps Go.WideElems Go.Deep IH
set_option maxRecDepth 100000
section
variable {H : Type} {enc : TypeId × Value → H} {P : Program} {w : World} {base : Nat} {spare : Nat → Bool} {held : Bool}
/-- A slice of structs: each element's cells, and its fields' own readings. -/
theorem open_aggs {t e : TypeId} {fs : Array Field} {size : Nat} {fuel : Nat} {cs : List Value} {x : DataW H × List MemPlace} (ht : P.underlying t = some (.slice e)) (he : P.underlying e = some (.struct fs))
    (hC : P.cellsOf e = size) (h : DataW.trod enc P w base spare held fuel t cs = some x) :
    (cs = [.slice none 0 0]) ∨
    ∃ (a : Addr) (len cap : Nat), cs = [.slice (some a) len cap] ∧ len ≤ cap ∧ cap ≤ maxLen ∧
      ∀ i, i < len → ∃ (cs' : List Value) (n : Nat), cs'.length = size ∧ (∀ j v, cs'[j]? = some v → w.cell? (a.add (i * size + j)) = some v) ∧
        ∀ (j : Nat) (f : Field), fs[j]? = some f → ∃ y : DataW H × List MemPlace, DataW.trod enc P w base spare held n f.type ((cs'.drop f.offset).take (P.cellsOf f.type)) = some y := by
  rcases open_slice ht h with h0 | ⟨a, len, cap, m, n, D, Pl, hcs, hb, hl, hm, hmm, hx, hi⟩
  · exact .inl h0.1
  · refine .inr ⟨a, len, cap, hcs, hl, hm, fun i him => ?_⟩
    obtain ⟨cs', hc, ht'⟩ := hi i (by rw [hmm]; split <;> omega)
    rw [hC] at hc
    obtain ⟨ys, n', hn', hy, hlen, hyl, hf⟩ := DataW.trod_struct he ht'
    obtain ⟨_, hcl, hat⟩ := World.cells?_some hc
    refine ⟨cs', n', hcl, fun j v hj => ?_, fun j f hj => ?_⟩
    · have hjl : j < size := by have := (List.getElem?_eq_some_iff.1 hj).1; omega
      rw [← Go.Deep.add_add, hat j hjl, hj]
    · have hjl : j < fs.size := (Array.getElem?_eq_some_iff.1 hj).1
      have h1 := hf j f hj
      exact ⟨_, h1.trans (List.getElem?_eq_getElem (by omega))⟩
theorem addr_plain {a : Addr} {v : Value} (h : w.cell? a = some v) : ∃ b off, a = ⟨b, off, none⟩ := by
  obtain ⟨b, off, spot⟩ := a
  have hspot : spot = none := World.cell?_spot h
  subst hspot
  exact ⟨b, off, rfl⟩
/-- One cell each: a slice that reads as a list. -/
theorem slice_in1 {a : Addr} {len cap : Nat} {xs : List Value} (hl : len ≤ cap) (hm : cap ≤ maxLen) (hz : len = xs.length) (hcell : ∀ i u, xs[i]? = some u → w.cell? (a.add i) = some u) : SliceIn w w.heap.size 1 (some a) len cap xs := by
  refine ⟨by omega, hl, hm, fun h0 => ?_⟩
  obtain ⟨u0, hu0⟩ : ∃ u, xs[0]? = some u := ⟨_, List.getElem?_eq_getElem (by omega)⟩
  have hc0 := hcell 0 u0 hu0
  obtain ⟨b, off, spot⟩ := a
  have hspot : spot = none := by simpa [Addr.add] using World.cell?_spot hc0
  subst hspot
  refine ⟨b, off, rfl, World.block_lt_of_cell? w _ (by rw [add_plain] at hc0; exact hc0), fun j u hu => ?_⟩
  have := hcell j u hu
  rwa [add_plain] at this
theorem list_each' {α : Type} (n : Nat) (Q : Nat → α → Prop) (h : ∀ i, i < n → ∃ t, Q i t) : ∃ L : List α, L.length = n ∧ ∀ i t, L[i]? = some t → Q i t := by
  induction n with
  | zero => exact ⟨[], rfl, fun i t h => by simp at h⟩
  | succ n ih =>
    obtain ⟨L, hL, hQ⟩ := ih fun i hi => h i (by omega)
    obtain ⟨t, ht⟩ := h n (by omega)
    refine ⟨L ++ [t], by simp [hL], fun i u hu => ?_⟩
    rcases Nat.lt_or_ge i n with hi | hi
    · rw [List.getElem?_append_left (by omega)] at hu
      exact hQ i u hu
    · rw [List.getElem?_append_right (by omega), hL] at hu
      have hin : i = n := by
        rcases Nat.eq_zero_or_pos (i - n) with h0 | h0
        · omega
        · rw [List.getElem?_eq_none (by simp; omega)] at hu; cases hu
      subst hin
      simp at hu
      subst hu
      exact ht
theorem trod_bytes_in {t e : TypeId} (ht : P.underlying t = some (.slice e)) (he : P.underlying e = some (.int .u8)) (hc : P.cellsOf e = 1) {fuel : Nat} {v : Value} {x : DataW H × List MemPlace} (h : DataW.trod enc P w base spare held fuel t [v] = some x) :
    ∃ A n c L, v = .slice A n c ∧ SliceIn w w.heap.size 1 A n c (bytesV L) := by
  rcases open_ints ht he hc h with ⟨hcs, _⟩ | ⟨a, l, c, zs, hcs, _, hl, hm, hz, _, hcell, hwz⟩
  · injection hcs with hcs
    exact ⟨_, _, _, [], hcs, SliceIn.none_ (Nat.zero_le _)⟩
  · injection hcs with hcs
    have hz' : l ≤ zs.length := by rw [hz]; split <;> omega
    refine ⟨_, _, _, (zs.take l).map fun z => UInt8.ofNat z.toNat, hcs, slice_in1 hl hm (by rw [bytesV_length, List.length_map, List.length_take]; omega) fun i u hu => ?_⟩
    rw [bytesV_get, List.getElem?_map, List.getElem?_take] at hu
    split at hu
    · rename_i hj
      have hjl : i < zs.length := by omega
      rw [List.getElem?_eq_getElem hjl] at hu
      simp only [Option.map_some, Option.some.injEq] at hu
      have hb := bounds_u8 (hwz zs[i] (List.getElem_mem hjl))
      rw [← hu, hcell i hjl]
      simp only [List.getD_eq_getElem?_getD, List.getElem?_eq_getElem hjl, Option.getD_some, byteV]
      congr 2
      rw [UInt8.toNat_ofNat']
      omega
    · simp at hu
theorem trod_bools_in {t e : TypeId} (ht : P.underlying t = some (.slice e)) (he : P.underlying e = some .bool) (hc : P.cellsOf e = 1) {fuel : Nat} {v : Value} {x : DataW H × List MemPlace} (h : DataW.trod enc P w base spare held fuel t [v] = some x) :
    ∃ A n c L, v = .slice A n c ∧ SliceIn w w.heap.size 1 A n c (boolsV L) := by
  rcases open_slice1 ht hc h with ⟨hcs, _⟩ | ⟨a, l, c, m, n, V, D, Pl, hcs, _, hl, hm, hmm, _, hx⟩
  · injection hcs with hcs
    exact ⟨_, _, _, [], hcs, SliceIn.none_ (Nat.zero_le _)⟩
  · injection hcs with hcs
    have hlm : l ≤ m := by rw [hmm]; split <;> omega
    obtain ⟨L, hL, hQ⟩ := list_each' l (fun i (b : Bool) => w.cell? (a.add i) = some (.bool b)) (fun i hi => by
      obtain ⟨h1, h2⟩ := hx i (by omega)
      obtain ⟨b, hb, _⟩ := DataW.trod_bool he h2
      injection hb with hb
      exact ⟨b, by rw [h1, hb]⟩)
    refine ⟨_, _, _, L, hcs, slice_in1 hl hm (by rw [boolsV_length]; omega) fun i u hu => ?_⟩
    unfold boolsV at hu
    rw [List.getElem?_map] at hu
    obtain ⟨b, hb, rfl⟩ := Option.map_eq_some_iff.1 hu
    exact hQ i b hb
end
theorem inI_wf {n : Int} (h : (Lit.int .i64 n).wf = true) : inI n := by
  have := bounds_i64 h
  unfold inI
  omega
section
variable {H : Type} {enc : TypeId × Value → H} {P : Program} {w : World} {base : Nat} {spare : Nat → Bool} {held : Bool}
theorem trod_ints_in {t e : TypeId} (ht : P.underlying t = some (.slice e)) (he : P.underlying e = some (.int .i64)) (hc : P.cellsOf e = 1) {fuel : Nat} {v : Value} {x : DataW H × List MemPlace} (h : DataW.trod enc P w base spare held fuel t [v] = some x) :
    ∃ A n c L, v = .slice A n c ∧ SliceIn w w.heap.size 1 A n c (intsV L) ∧ ∀ z ∈ L, inI z := by
  rcases open_ints ht he hc h with ⟨hcs, _⟩ | ⟨a, l, c, zs, hcs, _, hl, hm, hz, _, hcell, hwz⟩
  · injection hcs with hcs
    exact ⟨_, _, _, [], hcs, SliceIn.none_ (Nat.zero_le _), by simp⟩
  · injection hcs with hcs
    have hz' : l ≤ zs.length := by rw [hz]; split <;> omega
    refine ⟨_, _, _, zs.take l, hcs, slice_in1 hl hm (by rw [intsV_length, List.length_take]; omega) (fun i u hu => ?_), fun z hz => inI_wf (hwz z (List.mem_of_mem_take hz))⟩
    unfold intsV at hu
    rw [List.getElem?_map, List.getElem?_take] at hu
    split at hu
    · rename_i hj
      have hjl : i < zs.length := by omega
      rw [List.getElem?_eq_getElem hjl] at hu
      simp only [Option.map_some, Option.some.injEq] at hu
      rw [← hu, hcell i hjl]
      simp [List.getD_eq_getElem?_getD, hjl]
    · simp at hu
end
/-- Numbers within int's. -/
structure DeedI (d : Deed) : Prop where
  ic : inI d.conn
  iN : inI d.n
  it : inI d.torn
  ip : inI d.part
  ia : ∀ n ∈ d.calls, inI n
section
variable {H : Type} {enc : TypeId × Value → H} {w : World} {base b0 : Nat} {spare : Nat → Bool} {held : Bool} {r : Reach}
theorem list8 {l : List Value} (h : l.length = 8) : ∃ a b c d e f g i, l = [a, b, c, d, e, f, g, i] := by
  match l, h with
  | [a, b, c, d, e, f, g, i], _ => exact ⟨a, b, c, d, e, f, g, i, rfl⟩
theorem open_deeds_in {v : Value} {d : DataW H} {p : List MemPlace} (hval : Value.okWide Try.prog w r b0 37 v) (h : DataW.Trod enc Try.prog w base spare held 37 v d p) :
    ∃ A n c L V, v = .slice A n c ∧ SliceIn w w.heap.size 8 A n c V ∧ DeedsR w w.heap.size L V ∧ ∀ d ∈ L, DeedI d := by
  obtain ⟨a0, len0, cap0, rfl⟩ := okWide_slice Try.underlying37 hval
  obtain ⟨fuel, hf⟩ := h
  have e1 : Try.prog.cellsOf 3 = 1 := by kernel_rfl
  have e2 : Try.prog.cellsOf 47 = 1 := by kernel_rfl
  have e3 : Try.prog.cellsOf 48 = 1 := by kernel_rfl
  have e4 : Try.prog.cellsOf 49 = 1 := by kernel_rfl
  have e5 : Try.prog.cellsOf 51 = 3 := by kernel_rfl
  rcases open_aggs Try.underlying37 Try.underlying53 (show Try.prog.cellsOf 53 = 8 by kernel_rfl) hf with hcs | ⟨x, l, c, hcs, hl, hm, hall⟩
  · simp [Value.cells] at hcs
    obtain ⟨rfl, rfl, rfl⟩ := hcs
    exact ⟨_, _, _, [], [], rfl, SliceIn.none_ (Nat.zero_le _), rfl, by simp⟩
  · simp [Value.cells] at hcs
    obtain ⟨rfl, rfl, rfl⟩ := hcs
    have hone : ∀ i, i < len0 → ∃ t : Deed × List Value, DeedR w w.heap.size t.1 t.2 ∧ DeedI t.1 ∧ t.2.length = 8 ∧ ∀ j u, t.2[j]? = some u → w.cell? (x.add (i * 8 + j)) = some u := by
      intro i hi
      obtain ⟨cs', n, hlen, hcell, hff⟩ := hall i hi
      obtain ⟨v0, v1, v2, v3, v4, v5, v6, v7, rfl⟩ := list8 hlen
      obtain ⟨y0, t0⟩ := hff 0 _ rfl
      obtain ⟨y1, t1⟩ := hff 1 _ rfl
      obtain ⟨y2, t2⟩ := hff 2 _ rfl
      obtain ⟨y3, t3⟩ := hff 3 _ rfl
      obtain ⟨y4, t4⟩ := hff 4 _ rfl
      obtain ⟨y5, t5⟩ := hff 5 _ rfl
      change DataW.trod enc Try.prog w base spare held n 3 (([v0, v1, v2, v3, v4, v5, v6, v7].drop 0).take (Try.prog.cellsOf 3)) = some y0 at t0
      change DataW.trod enc Try.prog w base spare held n 3 (([v0, v1, v2, v3, v4, v5, v6, v7].drop 1).take (Try.prog.cellsOf 3)) = some y1 at t1
      change DataW.trod enc Try.prog w base spare held n 3 (([v0, v1, v2, v3, v4, v5, v6, v7].drop 2).take (Try.prog.cellsOf 3)) = some y2 at t2
      change DataW.trod enc Try.prog w base spare held n 47 (([v0, v1, v2, v3, v4, v5, v6, v7].drop 3).take (Try.prog.cellsOf 47)) = some y3 at t3
      change DataW.trod enc Try.prog w base spare held n 48 (([v0, v1, v2, v3, v4, v5, v6, v7].drop 4).take (Try.prog.cellsOf 48)) = some y4 at t4
      change DataW.trod enc Try.prog w base spare held n 51 (([v0, v1, v2, v3, v4, v5, v6, v7].drop 5).take (Try.prog.cellsOf 51)) = some y5 at t5
      rw [e1] at t0 t1 t2
      rw [e2] at t3
      rw [e3] at t4
      rw [e5] at t5
      obtain ⟨ys, n', _, _, _, hyl, hf5⟩ := DataW.trod_struct Try.underlying51 t5
      have hyl3 : ys.length = 3 := hyl
      have k0 := hf5 0 _ rfl
      have k1 := hf5 1 _ rfl
      have k2 := hf5 2 _ rfl
      rw [List.getElem?_eq_getElem (by omega)] at k0 k1 k2
      change DataW.trod enc Try.prog w base spare held n' 49 (([v5, v6, v7].drop 0).take (Try.prog.cellsOf 49)) = _ at k0
      change DataW.trod enc Try.prog w base spare held n' 3 (([v5, v6, v7].drop 1).take (Try.prog.cellsOf 3)) = _ at k1
      change DataW.trod enc Try.prog w base spare held n' 3 (([v5, v6, v7].drop 2).take (Try.prog.cellsOf 3)) = _ at k2
      rw [e4] at k0
      rw [e1] at k1 k2
      obtain ⟨z0, h0, _, _⟩ := DataW.trod_int Try.underlying3 t0
      obtain ⟨z1, h1, _, w1⟩ := DataW.trod_int Try.underlying3 t1
      obtain ⟨z2, h2, _, w2⟩ := DataW.trod_int Try.underlying3 t2
      obtain ⟨AB, nB, cB, LB, h3, s3⟩ := trod_bytes_in Try.underlying47 Try.underlying5 (by kernel_rfl) t3
      obtain ⟨AC, nC, cC, LC, h4, s4, w4⟩ := trod_ints_in Try.underlying48 Try.underlying3 (by kernel_rfl) t4
      obtain ⟨AK, nK, cK, LK, h5, s5⟩ := trod_bools_in Try.underlying49 Try.underlying4 (by kernel_rfl) k0
      obtain ⟨z6, h6, _, w6⟩ := DataW.trod_int Try.underlying3 k1
      obtain ⟨z7, h7, _, w7⟩ := DataW.trod_int Try.underlying3 k2
      injection h0 with h0
      injection h1 with h1
      injection h2 with h2
      injection h6 with h6
      injection h7 with h7
      subst h0 h1 h2 h3 h4 h5 h6 h7
      refine ⟨(⟨z0, z1, z2, LB, LC, LK, z6, z7⟩, _), ⟨AB, nB, cB, AC, nC, cC, AK, nK, cK, rfl, s3, s4, s5⟩, ⟨inI_wf w1, inI_wf w2, inI_wf w6, inI_wf w7, w4⟩, rfl, hcell⟩
    obtain ⟨L, hL, hQ⟩ := list_each' len0 _ hone
    have hVlen : ∀ M : List (Deed × List Value), (∀ t ∈ M, t.2.length = 8) → (M.flatMap (·.2)).length = M.length * 8 := by
      intro M hM
      induction M with
      | nil => rfl
      | cons t M ih =>
        rw [List.flatMap_cons, List.length_append, ih fun u hu => hM u (by simp [hu]), hM t (by simp), List.length_cons]
        omega
    have hVget : ∀ (M : List (Deed × List Value)), (∀ t ∈ M, t.2.length = 8) → ∀ k u, (M.flatMap (·.2))[k]? = some u → ∃ i j t, k = i * 8 + j ∧ M[i]? = some t ∧ t.2[j]? = some u := by
      intro M hM
      induction M with
      | nil => intro k u h; simp at h
      | cons t M ih =>
        intro k u h
        rw [List.flatMap_cons] at h
        have h8 := hM t (by simp)
        rcases Nat.lt_or_ge k 8 with hk | hk
        · rw [List.getElem?_append_left (by omega)] at h
          exact ⟨0, k, t, by omega, rfl, h⟩
        · rw [List.getElem?_append_right (by omega), h8] at h
          obtain ⟨i, j, s, h1, h2, h3⟩ := ih (fun u hu => hM u (by simp [hu])) _ _ h
          exact ⟨i + 1, j, s, by omega, by simpa using h2, h3⟩
    have hall8 : ∀ t ∈ L, t.2.length = 8 := fun t ht => by
      obtain ⟨i, hi⟩ := List.getElem?_of_mem ht
      exact (hQ i t hi).2.2.1
    have hR : ∀ M : List (Deed × List Value), (∀ t ∈ M, DeedR w w.heap.size t.1 t.2) → DeedsR w w.heap.size (M.map (·.1)) (M.flatMap (·.2)) := by
      intro M hM
      induction M with
      | nil => rfl
      | cons t M ih => exact ⟨t.2, _, rfl, hM t (by simp), ih fun u hu => hM u (by simp [hu])⟩
    have hcell : ∀ k u, (L.flatMap (·.2))[k]? = some u → w.cell? (x.add k) = some u := fun k u hu => by
      obtain ⟨i, j, t, rfl, h2, h3⟩ := hVget L hall8 k u hu
      exact (hQ i t h2).2.2.2 j u h3
    refine ⟨_, _, _, L.map (·.1), L.flatMap (·.2), rfl, ⟨by rw [hVlen L hall8, hL], hl, hm, fun h0 => ?_⟩, hR L fun t ht => ?_, fun d hd => ?_⟩
    · have h0' : 0 < (L.flatMap (·.2)).length := by rw [hVlen L hall8, hL]; omega
      have hc0 := hcell 0 _ (List.getElem?_eq_getElem h0')
      obtain ⟨b, off, rfl⟩ : ∃ b off, x = ⟨b, off, none⟩ := by
        obtain ⟨b, off, spot⟩ := x
        have hspot : spot = none := by simpa [Addr.add] using World.cell?_spot hc0
        subst hspot
        exact ⟨b, off, rfl⟩
      refine ⟨b, off, rfl, World.block_lt_of_cell? w _ (by rw [add_plain] at hc0; exact hc0), fun j u hu => ?_⟩
      have := hcell j u hu
      rwa [add_plain] at this
    · obtain ⟨i, hi⟩ := List.getElem?_of_mem ht
      exact (hQ i t hi).1
    · obtain ⟨t, ht, rfl⟩ := List.mem_map.1 hd
      obtain ⟨i, hi⟩ := List.getElem?_of_mem ht
      exact (hQ i t hi).2.1
end
end Go.Proofs.Ytmcioedmjcbfbaa
