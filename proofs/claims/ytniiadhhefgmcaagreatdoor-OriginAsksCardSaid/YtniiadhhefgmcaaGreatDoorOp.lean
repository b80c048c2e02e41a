/- Op: several texts, one behind the other. -/
import Derived.Test.YtniiadhhefgmcaaGreatDoorFa
import Derived.ProofKit
import Derived.OpenShut
import Derived.ChangeSame
import Derived.Deep.Slices
import Derived.Deep.Fields
import Derived.Test.YtniiadhhefgmcaaGreatDoorOpen
import Derived.Test.YtniiadhhefgmcaaGreatDoorTe
/- Arguments that came in, opened: slices of fields. No condition. -/
namespace Go.Proofs.YtniiadhhefgmcaaGreatDoor
open Go.ChangeShapes Go.WideShapes Go.ChangeAt Go.RowKit Go.WideMaps Go.WideElems Go.Deep IH
set_option maxRecDepth 100000

section
variable {H : Type} {enc : TypeId × Value → H} {P : Program} {w : World} {base : Nat} {spare : Nat → Bool} {held : Bool}
/-- A slice of structs whose fields have one cell each: its cells, and each field's own reading. -/
theorem open_fields {t e : TypeId} {fs : Array Field} {fuel : Nat} {cs : List Value} {x : DataW H × List MemPlace} (ht : P.underlying t = some (.slice e)) (he : P.underlying e = some (.struct fs))
    (hone : oneCellFields P fs = true) (hC : P.cellsOf e = fs.size) (h : DataW.trod enc P w base spare held fuel t cs = some x) :
    (cs = [.slice none 0 0]) ∨
    ∃ (a : Addr) (len cap : Nat), cs = [.slice (some a) len cap] ∧ len ≤ cap ∧ cap ≤ maxLen ∧
      ∀ i, i < len → ∃ n, ∀ (j : Nat) (f : Field), fs[j]? = some f → ∃ (v : Value) (y : DataW H × List MemPlace), w.cell? (a.add (i * fs.size + j)) = some v ∧ DataW.trod enc P w base spare held n f.type [v] = some y := by
  rcases open_slice ht h with h0 | ⟨a, len, cap, m, n, D, Pl, hcs, hb, hl, hm, hmm, hx, hi⟩
  · exact .inl h0.1
  · refine .inr ⟨a, len, cap, hcs, hl, hm, fun i him => ?_⟩
    obtain ⟨cs', hc, ht'⟩ := hi i (by rw [hmm]; split <;> omega)
    rw [hC] at hc
    obtain ⟨ys, n', hn', hy, hlen, hyl, hf⟩ := DataW.trod_struct he ht'
    obtain ⟨_, hcl, hat⟩ := World.cells?_some hc
    refine ⟨n', fun j f hj => ?_⟩
    obtain ⟨ho, hk⟩ := hone_of hone j f hj
    have hjl : j < fs.size := (Array.getElem?_eq_some_iff.1 hj).1
    have hcell := hat j hjl
    have hv : cs'[j]? = some (cs'[j]'(by omega)) := List.getElem?_eq_getElem (by omega)
    have h1 := hf j f hj
    rw [ho, hk] at h1
    have hone' : (cs'.drop j).take 1 = [cs'[j]'(by omega)] := by
      rw [List.drop_eq_getElem_cons (by omega)]
      rfl
    rw [hone'] at h1
    have hys : ys[j]? = some (ys[j]'(by omega)) := List.getElem?_eq_getElem (by omega)
    refine ⟨_, _, ?_, h1.trans hys⟩
    rw [← Go.Deep.add_add, hcell, hv]
end

theorem list_each {α : Type} (n : Nat) (Q : Nat → α → Prop) (h : ∀ i, i < n → ∃ t, Q i t) : ∃ L : List α, L.length = n ∧ ∀ i t, L[i]? = some t → Q i t := by
  induction n with
  | zero => exact ⟨[], rfl, fun i t h => by simp at h⟩
  | succ n ih =>
    obtain ⟨L, hL, hQ⟩ := ih fun i hi => h i (by omega)
    obtain ⟨t, ht⟩ := h n (by omega)
    refine ⟨L ++ [t], by simp [hL], fun i u hu => ?_⟩
    rcases Nat.lt_or_ge i n with hi | hi
    · rw [List.getElem?_append_left (by omega)] at hu
      exact hQ i u hu
    · rw [List.getElem?_append_right (by omega), hL] at hu
      have hin : i = n := by
        rcases Nat.eq_zero_or_pos (i - n) with h0 | h0
        · omega
        · rw [List.getElem?_eq_none (by simp; omega)] at hu; cases hu
      subst hin
      simp at hu
      subst hu
      exact ht

theorem plain_addr {w : World} {a : Addr} {v : Value} (h : w.cell? a = some v) : ∃ b off, a = ⟨b, off, none⟩ := by
  obtain ⟨b, off, spot⟩ := a
  have hspot : spot = none := World.cell?_spot h
  subst hspot
  exact ⟨b, off, rfl⟩

section
variable {H : Type} {enc : TypeId × Value → H} {w : World} {base b0 : Nat} {spare : Nat → Bool} {held : Bool} {r : Reach}
theorem open_flds_in {v : Value} {d : DataW H} {p : List MemPlace} (hval : Value.okWide Tryz.prog w r b0 24 v) (h : DataW.Trod enc Tryz.prog w base spare held 24 v d p) :
    ∃ A n c L, v = .slice A n c ∧ SliceIn w w.heap.size 2 A n c (fldsV L) := by
  obtain ⟨a0, len0, cap0, rfl⟩ := okWide_slice Tryz.underlying24 hval
  obtain ⟨fuel, hf⟩ := h
  rcases open_fields Tryz.underlying24 Tryz.underlying74 (by kernel_rfl) (by kernel_rfl) hf with hcs | ⟨x, l, c, hcs, hl, hm, hall⟩
  · simp [Value.cells] at hcs
    obtain ⟨rfl, rfl, rfl⟩ := hcs
    exact ⟨_, _, _, [], rfl, SliceIn.none_ (Nat.zero_le _)⟩
  · simp [Value.cells] at hcs
    obtain ⟨rfl, rfl, rfl⟩ := hcs
    have hone : ∀ i, i < len0 → ∃ t : Fld, ∀ j u, (fldCells t)[j]? = some u → w.cell? (x.add (i * 2 + j)) = some u := by
      intro i hi
      obtain ⟨n, hn⟩ := hall i hi
      obtain ⟨v0, y0, c0, t0⟩ := hn 0 _ rfl
      obtain ⟨v1, y1, c1, t1⟩ := hn 1 _ rfl
      obtain ⟨z0, e0, _, _⟩ := DataW.trod_string Tryz.underlying9 t0
      obtain ⟨z1, e1, _, _⟩ := DataW.trod_string Tryz.underlying9 t1
      simp only [List.cons.injEq, and_true] at e0 e1
      subst e0 e1
      refine ⟨(z0.data.toList, z1.data.toList), fun j u hu => ?_⟩
      have hj : j < 2 := by have := (List.getElem?_eq_some_iff.1 hu).1; simpa [fldCells] using this
      simp only [fldCells, Lib.mk_data] at hu
      have hj2 : j = 0 ∨ j = 1 := by omega
      rcases hj2 with rfl | rfl <;> (simp only [List.getElem?_cons_zero, List.getElem?_cons_succ, Option.some.injEq] at hu; subst hu; assumption)
    obtain ⟨L, hL, hQ⟩ := list_each len0 _ hone
    refine ⟨_, _, _, L, rfl, by rw [fldsV_length, hL], hl, hm, fun h0 => ?_⟩
    obtain ⟨t0, ht0⟩ : ∃ t, L[0]? = some t := ⟨_, List.getElem?_eq_getElem (by omega)⟩
    have hc0 := hQ 0 t0 ht0 0 _ rfl
    obtain ⟨b, off, hx⟩ := plain_addr hc0
    obtain ⟨xb, xo, xs⟩ := x
    have hs : xs = none := by
      unfold Addr.add at hx
      split at hx <;> simp_all
    subst hs
    refine ⟨xb, xo, rfl, World.block_lt_of_cell? w _ (by rw [add_plain] at hc0; exact hc0), fun j u hu => ?_⟩
    have hjl : j < L.length * 2 := by rw [← fldsV_length]; exact (List.getElem?_eq_some_iff.1 hu).1
    obtain ⟨t, ht⟩ : ∃ t, L[j / 2]? = some t := ⟨_, List.getElem?_eq_getElem (by omega)⟩
    have hk : j = j / 2 * 2 + j % 2 := by omega
    obtain ⟨g0, g1⟩ := fldsV_get L (j / 2) t ht
    have hcell : (fldCells t)[j % 2]? = some u := by
      have hm2 : j % 2 = 0 ∨ j % 2 = 1 := by omega
      rcases hm2 with h | h
      · rw [hk, h, Nat.add_zero, g0] at hu
        rw [h]; exact hu
      · rw [hk, h, g1] at hu
        rw [h]; exact hu
    have := hQ (j / 2) t ht (j % 2) u hcell
    rw [add_plain, ← hk] at this
    exact this
end
end Go.Proofs.YtniiadhhefgmcaaGreatDoor

/- An argument that is a message, opened: its lists, its numbers' bounds. No condition. -/
namespace Go.Proofs.YtniiadhhefgmcaaGreatDoor
open Go.ChangeShapes Go.WideShapes Go.ChangeAt Go.RowKit Go.WideMaps Go.WideElems Go.Deep IH
set_option maxRecDepth 100000
theorem pairs_sliceM {α : Type} {V : List α → List Value} {c0 c1 : α → Value} (hlen : ∀ L, (V L).length = L.length * 2) (hget : ∀ L k t, L[k]? = some t → (V L)[k * 2]? = some (c0 t) ∧ (V L)[k * 2 + 1]? = some (c1 t))
    {w : World} {x : Addr} {len cap : Nat} (hl : len ≤ cap) (hm : cap ≤ maxLen) (hone : ∀ i, i < len → ∃ t, w.cell? (x.add (i * 2 + 0)) = some (c0 t) ∧ w.cell? (x.add (i * 2 + 1)) = some (c1 t)) : ∃ L, SliceIn w w.heap.size 2 (some x) len cap (V L) := by
  obtain ⟨L, hL, hQ⟩ := list_each len _ hone
  refine ⟨L, by rw [hlen, hL], hl, hm, fun h0 => ?_⟩
  obtain ⟨t0, ht0⟩ : ∃ t, L[0]? = some t := ⟨_, List.getElem?_eq_getElem (by omega)⟩
  have hc0 := (hQ 0 t0 ht0).1
  obtain ⟨b, off, hx⟩ := plain_addr hc0
  obtain ⟨xb, xo, xs⟩ := x
  have hs : xs = none := by
    unfold Addr.add at hx
    split at hx <;> simp_all
  subst hs
  refine ⟨xb, xo, rfl, World.block_lt_of_cell? w _ (by rw [add_plain] at hc0; exact hc0), fun j u hu => ?_⟩
  have hjl : j < L.length * 2 := by rw [← hlen]; exact (List.getElem?_eq_some_iff.1 hu).1
  obtain ⟨t, ht⟩ : ∃ t, L[j / 2]? = some t := ⟨_, List.getElem?_eq_getElem (by omega)⟩
  have hk : j = j / 2 * 2 + j % 2 := by omega
  obtain ⟨g0, g1⟩ := hget L (j / 2) t ht
  obtain ⟨q0, q1⟩ := hQ (j / 2) t ht
  have hm2 : j % 2 = 0 ∨ j % 2 = 1 := by omega
  rcases hm2 with h | h
  · rw [hk, h, Nat.add_zero, g0] at hu
    rw [add_plain] at q0
    rw [hk, h, q0, hu]
  · rw [hk, h, g1] at hu
    rw [add_plain] at q1
    rw [hk, h, q1, hu]
theorem slice_inM1 {w : World} {a : Addr} {len cap : Nat} {xs : List Value} (hl : len ≤ cap) (hm : cap ≤ maxLen) (hz : len = xs.length) (hcell : ∀ i u, xs[i]? = some u → w.cell? (a.add i) = some u) : SliceIn w w.heap.size 1 (some a) len cap xs := by
  refine ⟨by omega, hl, hm, fun h0 => ?_⟩
  obtain ⟨u0, hu0⟩ : ∃ u, xs[0]? = some u := ⟨_, List.getElem?_eq_getElem (by omega)⟩
  have hc0 := hcell 0 u0 hu0
  obtain ⟨b, off, spot⟩ := a
  have hspot : spot = none := by simpa [Addr.add] using World.cell?_spot hc0
  subst hspot
  refine ⟨b, off, rfl, World.block_lt_of_cell? w _ (by rw [add_plain] at hc0; exact hc0), fun j u hu => ?_⟩
  have := hcell j u hu
  rwa [add_plain] at this
section
variable {H : Type} {enc : TypeId × Value → H} {P : Program} {w : World} {base : Nat} {spare : Nat → Bool} {held : Bool}
theorem trod_bytesM_in {t e : TypeId} (ht : P.underlying t = some (.slice e)) (he : P.underlying e = some (.int .u8)) (hc : P.cellsOf e = 1) {fuel : Nat} {v : Value} {x : DataW H × List MemPlace} (h : DataW.trod enc P w base spare held fuel t [v] = some x) :
    ∃ A n c L, v = .slice A n c ∧ SliceIn w w.heap.size 1 A n c (bytesV L) := by
  rcases open_ints ht he hc h with ⟨hcs, _⟩ | ⟨a, l, c, zs, hcs, _, hl, hm, hz, _, hcell, hwz⟩
  · injection hcs with hcs
    exact ⟨_, _, _, [], hcs, SliceIn.none_ (Nat.zero_le _)⟩
  · injection hcs with hcs
    have hz' : l ≤ zs.length := by rw [hz]; split <;> omega
    refine ⟨_, _, _, (zs.take l).map fun z => UInt8.ofNat z.toNat, hcs, slice_inM1 hl hm (by rw [bytesV_length, List.length_map, List.length_take]; omega) fun i u hu => ?_⟩
    rw [bytesV_get, List.getElem?_map, List.getElem?_take] at hu
    split at hu
    · rename_i hj
      have hjl : i < zs.length := by omega
      rw [List.getElem?_eq_getElem hjl] at hu
      simp only [Option.map_some, Option.some.injEq] at hu
      have hb := bounds_u8 (hwz zs[i] (List.getElem_mem hjl))
      rw [← hu, hcell i hjl]
      simp only [List.getD_eq_getElem?_getD, List.getElem?_eq_getElem hjl, Option.getD_some, byteV]
      congr 2
      rw [UInt8.toNat_ofNat']
      omega
    · simp at hu
end
section
variable {H : Type} {enc : TypeId × Value → H} {w : World} {base b0 : Nat} {spare : Nat → Bool} {held : Bool} {r : Reach}
theorem trod_fldsM_in {fuel : Nat} {v : Value} {x : DataW H × List MemPlace} (h : DataW.trod enc Tryz.prog w base spare held fuel 24 [v] = some x) :
    ∃ A n c L, v = .slice A n c ∧ SliceIn w w.heap.size 2 A n c (fldsV L) := by
  rcases open_fields Tryz.underlying24 Tryz.underlying74 (by kernel_rfl) (by kernel_rfl) h with hcs | ⟨a, l, c, hcs, hl, hm, hall⟩
  · injection hcs with hcs
    exact ⟨_, _, _, [], hcs, SliceIn.none_ (Nat.zero_le _)⟩
  · injection hcs with hcs
    obtain ⟨L, hL⟩ := pairs_sliceM (V := fldsV) (c0 := fun f => .string ⟨f.1.toArray⟩) (c1 := fun f => .string ⟨f.2.toArray⟩) fldsV_length fldsV_get hl hm (fun i hi => by
      obtain ⟨n, hn⟩ := hall i hi
      obtain ⟨v0, y0, k0, t0⟩ := hn 0 _ rfl
      obtain ⟨v1, y1, k1, t1⟩ := hn 1 _ rfl
      obtain ⟨z0, e0, _, _⟩ := DataW.trod_string Tryz.underlying9 t0
      obtain ⟨z1, e1, _, _⟩ := DataW.trod_string Tryz.underlying9 t1
      simp only [List.cons.injEq, and_true] at e0 e1
      subst e0 e1
      exact ⟨(z0.data.toList, z1.data.toList), by simpa [Lib.mk_data] using k0, by simpa [Lib.mk_data] using k1⟩)
    exact ⟨_, _, _, L, hcs, hL⟩
/-- What a message's start that came in is within. -/
structure StaW (s : Sta) : Prop where
  m : s.method.length ≤ 9223372036854775807
  t : s.target.length ≤ 9223372036854775807
  r : s.reason.length ≤ 9223372036854775807
  s0 : -9223372036854775808 ≤ s.status
  s1 : s.status ≤ 9223372036854775807
  i0 : -9223372036854775808 ≤ s.minor
  i1 : s.minor ≤ 9223372036854775807
theorem list7 {l : List Value} (h : l.length = 7) : ∃ a0 a1 a2 a3 a4 a5 a6, l = [a0, a1, a2, a3, a4, a5, a6] := by
  match l, h with
  | [a0, a1, a2, a3, a4, a5, a6], _ => exact ⟨a0, a1, a2, a3, a4, a5, a6, rfl⟩
set_option maxHeartbeats 4000000 in
theorem open_message {v : Value} {d : DataW H} {p : List MemPlace} (hval : Value.okWide Tryz.prog w r b0 27 v) (h : DataW.Trod enc Tryz.prog w base spare held 27 v d p) :
    ∃ (s : Sta) (A1 : Option Addr) (n1 c1 : Nat) (L : List Fld) (A2 : Option Addr) (n2 c2 : Nat) (X : List UInt8), v = .agg (msgC s (.slice A1 n1 c1) (.slice A2 n2 c2)).toArray ∧ SliceIn w w.heap.size 2 A1 n1 c1 (fldsV L) ∧ SliceIn w w.heap.size 1 A2 n2 c2 (bytesV X) ∧ StaW s := by
  obtain ⟨cs, rfl, hsz⟩ := okWide_struct Tryz.underlying27 hval
  obtain ⟨fuel, hf⟩ := h
  have hsz2 : cs.toList.length = 7 := by rw [Array.length_toList, hsz]; kernel_rfl
  obtain ⟨a0, a1, a2, a3, a4, a5, a6, hcs⟩ := list7 hsz2
  obtain rfl : cs = #[a0, a1, a2, a3, a4, a5, a6] := by cases cs; simp_all
  obtain ⟨ys, n, _, _, _, hyl, hff⟩ := DataW.trod_struct Tryz.underlying27 hf
  have hyl3 : ys.length = 3 := hyl
  have e1 : Tryz.prog.cellsOf 3 = 1 := by kernel_rfl
  have e2 : Tryz.prog.cellsOf 9 = 1 := by kernel_rfl
  have e4 : Tryz.prog.cellsOf 23 = 5 := by kernel_rfl
  have e5 : Tryz.prog.cellsOf 24 = 1 := by kernel_rfl
  have e6 : Tryz.prog.cellsOf 25 = 1 := by kernel_rfl
  have k3 := (hff 0 _ rfl).trans (List.getElem?_eq_getElem (show 0 < ys.length by omega))
  have k4 := (hff 1 _ rfl).trans (List.getElem?_eq_getElem (show 1 < ys.length by omega))
  have k5 := (hff 2 _ rfl).trans (List.getElem?_eq_getElem (show 2 < ys.length by omega))
  change DataW.trod enc Tryz.prog w base spare held n 23 (([a0, a1, a2, a3, a4, a5, a6].drop 0).take (Tryz.prog.cellsOf 23)) = _ at k3
  change DataW.trod enc Tryz.prog w base spare held n 24 (([a0, a1, a2, a3, a4, a5, a6].drop 5).take (Tryz.prog.cellsOf 24)) = _ at k4
  change DataW.trod enc Tryz.prog w base spare held n 25 (([a0, a1, a2, a3, a4, a5, a6].drop 6).take (Tryz.prog.cellsOf 25)) = _ at k5
  rw [e4] at k3
  rw [e5] at k4
  rw [e6] at k5
  obtain ⟨z3, n3, _, _, _, hz3, h3⟩ := DataW.trod_struct Tryz.underlying23 k3
  have hz3' : z3.length = 5 := hz3
  have s0 := (h3 0 _ rfl).trans (List.getElem?_eq_getElem (show 0 < z3.length by omega))
  have s1 := (h3 1 _ rfl).trans (List.getElem?_eq_getElem (show 1 < z3.length by omega))
  have s2 := (h3 2 _ rfl).trans (List.getElem?_eq_getElem (show 2 < z3.length by omega))
  have s3 := (h3 3 _ rfl).trans (List.getElem?_eq_getElem (show 3 < z3.length by omega))
  have s4 := (h3 4 _ rfl).trans (List.getElem?_eq_getElem (show 4 < z3.length by omega))
  change DataW.trod enc Tryz.prog w base spare held n3 9 (([a0, a1, a2, a3, a4].drop 0).take (Tryz.prog.cellsOf 9)) = _ at s0
  change DataW.trod enc Tryz.prog w base spare held n3 9 (([a0, a1, a2, a3, a4].drop 1).take (Tryz.prog.cellsOf 9)) = _ at s1
  change DataW.trod enc Tryz.prog w base spare held n3 3 (([a0, a1, a2, a3, a4].drop 2).take (Tryz.prog.cellsOf 3)) = _ at s2
  change DataW.trod enc Tryz.prog w base spare held n3 9 (([a0, a1, a2, a3, a4].drop 3).take (Tryz.prog.cellsOf 9)) = _ at s3
  change DataW.trod enc Tryz.prog w base spare held n3 3 (([a0, a1, a2, a3, a4].drop 4).take (Tryz.prog.cellsOf 3)) = _ at s4
  rw [e2] at s0 s1 s3
  rw [e1] at s2 s4
  obtain ⟨M, q3, _, wM⟩ := DataW.trod_string Tryz.underlying9 s0
  obtain ⟨T, q4, _, wT⟩ := DataW.trod_string Tryz.underlying9 s1
  obtain ⟨st, q5, _, wst⟩ := DataW.trod_int Tryz.underlying3 s2
  obtain ⟨R, q6, _, wR⟩ := DataW.trod_string Tryz.underlying9 s3
  obtain ⟨mi, q7, _, wmi⟩ := DataW.trod_int Tryz.underlying3 s4
  obtain ⟨A1, n1, c1, L, q8, hL⟩ := trod_fldsM_in k4
  obtain ⟨A2, n2, c2, X, q9, hX⟩ := trod_bytesM_in Tryz.underlying25 Tryz.underlying5 (by kernel_rfl) k5
  simp only [List.drop_zero, List.drop_succ_cons, List.take_succ_cons, List.take_zero, List.cons.injEq, and_true] at q3 q4 q5 q6 q7
  subst q3 q4 q5 q6 q7 q8 q9
  have h1 := bounds_i64 wst
  have h2 := bounds_i64 wmi
  simp only [maxLen] at wM wT wR
  refine ⟨⟨M.data.toList, T.data.toList, st, R.data.toList, mi⟩, A1, n1, c1, L, A2, n2, c2, X, ?_, hL, hX, ⟨?_, ?_, ?_, h1.1, h1.2, h2.1, h2.2⟩⟩
  · simp [msgC, staC]
  · show M.data.toList.length ≤ _; rw [data_len]; omega
  · show T.data.toList.length ≤ _; rw [data_len]; omega
  · show R.data.toList.length ≤ _; rw [data_len]; omega
end
end Go.Proofs.YtniiadhhefgmcaaGreatDoor

/- How octets come, of layer 23's laws, opened. No condition. -/
namespace Go.Proofs.YtniiadhhefgmcaaGreatDoor
open Go.ChangeShapes Go.WideShapes Go.ChangeAt Go.RowKit Go.WideMaps Go.WideElems IH
set_option maxRecDepth 100000
section
variable {H : Type} {enc : TypeId × Value → H} {w : World} {base b0 : Nat} {spare : Nat → Bool} {held : Bool} {r : Reach}
end
end Go.Proofs.YtniiadhhefgmcaaGreatDoor

