/- An argument that is a wire, opened: its octets. No condition. -/
import Derived.Test.YtclgkkencpkjpaaGreatDoorOm
namespace Go.Proofs.YtclgkkencpkjpaaGreatDoor
open Go.ChangeShapes Go.WideShapes Go.ChangeAt Go.RowKit Go.WideMaps Go.WideElems Go.Deep IH
set_option maxRecDepth 100000
section
variable {H : Type} {enc : TypeId × Value → H} {w : World} {base b0 : Nat} {spare : Nat → Bool} {held : Bool} {r : Reach}
theorem list6w {l : List Value} (h : l.length = 6) : ∃ a0 a1 a2 a3 a4 a5, l = [a0, a1, a2, a3, a4, a5] := by
  match l, h with
  | [a0, a1, a2, a3, a4, a5], _ => exact ⟨a0, a1, a2, a3, a4, a5, rfl⟩
set_option maxHeartbeats 4000000 in
/-- A wire's cells: the two slices that are read. -/
theorem open_wire {v : Value} {d : DataW H} {p : List MemPlace} (hval : Value.okWide Tryz.prog w r b0 50 v) (h : DataW.Trod enc Tryz.prog w base spare held 50 v d p) :
    ∃ (x0 : Value) (A1 : Option Addr) (n1 c1 : Nat) (L1 : List UInt8) (A2 : Option Addr) (n2 c2 : Nat) (L2 : List UInt8) (x3 x4 x5 : Value), v = .agg #[x0, .slice A1 n1 c1, .slice A2 n2 c2, x3, x4, x5] ∧ SliceIn w w.heap.size 1 A1 n1 c1 (bytesV L1) ∧ SliceIn w w.heap.size 1 A2 n2 c2 (bytesV L2) ∧
      x0.oneCell' = true ∧ x3.oneCell' = true ∧ x4.oneCell' = true ∧ x5.oneCell' = true := by
  obtain ⟨cs, rfl, hsz⟩ := okWide_struct Tryz.underlying50 hval
  obtain ⟨fuel, hf⟩ := h
  have hsz2 : cs.toList.length = 6 := by rw [Array.length_toList, hsz]; kernel_rfl
  obtain ⟨a0, a1, a2, a3, a4, a5, hcs⟩ := list6w hsz2
  obtain rfl : cs = #[a0, a1, a2, a3, a4, a5] := by cases cs; simp_all
  obtain ⟨ys, n, _, _, _, hyl, hff⟩ := DataW.trod_struct Tryz.underlying50 hf
  have hyl3 : ys.length = 6 := hyl
  have e1 : Tryz.prog.cellsOf 3 = 1 := by kernel_rfl
  have e2 : Tryz.prog.cellsOf 38 = 1 := by kernel_rfl
  have e3 : Tryz.prog.cellsOf 48 = 1 := by kernel_rfl
  have e4 : Tryz.prog.cellsOf 4 = 1 := by kernel_rfl
  have k0 := (hff 0 _ rfl).trans (List.getElem?_eq_getElem (show 0 < ys.length by omega))
  have k1 := (hff 1 _ rfl).trans (List.getElem?_eq_getElem (show 1 < ys.length by omega))
  have k2 := (hff 2 _ rfl).trans (List.getElem?_eq_getElem (show 2 < ys.length by omega))
  have k3 := (hff 3 _ rfl).trans (List.getElem?_eq_getElem (show 3 < ys.length by omega))
  have k4 := (hff 4 _ rfl).trans (List.getElem?_eq_getElem (show 4 < ys.length by omega))
  have k5 := (hff 5 _ rfl).trans (List.getElem?_eq_getElem (show 5 < ys.length by omega))
  change DataW.trod enc Tryz.prog w base spare held n 3 (([a0, a1, a2, a3, a4, a5].drop 0).take (Tryz.prog.cellsOf 3)) = _ at k0
  change DataW.trod enc Tryz.prog w base spare held n 38 (([a0, a1, a2, a3, a4, a5].drop 1).take (Tryz.prog.cellsOf 38)) = _ at k1
  change DataW.trod enc Tryz.prog w base spare held n 38 (([a0, a1, a2, a3, a4, a5].drop 2).take (Tryz.prog.cellsOf 38)) = _ at k2
  change DataW.trod enc Tryz.prog w base spare held n 38 (([a0, a1, a2, a3, a4, a5].drop 3).take (Tryz.prog.cellsOf 38)) = _ at k3
  change DataW.trod enc Tryz.prog w base spare held n 48 (([a0, a1, a2, a3, a4, a5].drop 4).take (Tryz.prog.cellsOf 48)) = _ at k4
  change DataW.trod enc Tryz.prog w base spare held n 4 (([a0, a1, a2, a3, a4, a5].drop 5).take (Tryz.prog.cellsOf 4)) = _ at k5
  rw [e1] at k0
  rw [e2] at k1 k2 k3
  rw [e3] at k4
  rw [e4] at k5
  obtain ⟨z0, q0, _, _⟩ := DataW.trod_int Tryz.underlying3 k0
  obtain ⟨A1, n1, c1, L1, q1, h1⟩ := trod_bytesM_in Tryz.underlying38 Tryz.underlying5 (by kernel_rfl) k1
  obtain ⟨A2, n2, c2, L2, q2, h2⟩ := trod_bytesM_in Tryz.underlying38 Tryz.underlying5 (by kernel_rfl) k2
  obtain ⟨A3, n3, c3, L3, q3, _⟩ := trod_bytesM_in Tryz.underlying38 Tryz.underlying5 (by kernel_rfl) k3
  have q4 : ∃ A n c, a4 = .slice A n c := by
    rcases open_slice Tryz.underlying48 k4 with h0 | ⟨a, len, cap, m, n', D, Pl, hcs, _⟩
    · exact ⟨_, _, _, by simpa using h0.1⟩
    · exact ⟨_, _, _, by simpa using hcs⟩
  obtain ⟨A4, n4, c4, q4⟩ := q4
  obtain ⟨z5, q5, _⟩ := DataW.trod_bool Tryz.underlying4 k5
  simp only [List.drop_zero, List.drop_succ_cons, List.take_succ_cons, List.take_zero, List.cons.injEq, and_true] at q0 q1 q2 q3 q5
  subst q0 q1 q2 q3 q4 q5
  exact ⟨_, A1, n1, c1, L1, A2, n2, c2, L2, _, _, _, rfl, h1, h2, rfl, rfl, rfl, rfl⟩
end
end Go.Proofs.YtclgkkencpkjpaaGreatDoor
