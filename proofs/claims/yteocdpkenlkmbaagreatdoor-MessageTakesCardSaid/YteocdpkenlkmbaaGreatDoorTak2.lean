/- Layer 8: a reader that has failed takes nothing more; parts of a slice whose base is a letter; an argument How opened. Condition: as each states. -/
import Derived.Test.YteocdpkenlkmbaaGreatDoorTak1
import Derived.Test.YteocdpkenlkmbaaGreatDoorOm
import Derived.Test.YteocdpkenlkmbaaGreatDoorPb
import Derived.Lib.SmallJoins
namespace Go.Proofs.YteocdpkenlkmbaaGreatDoor
open Go.ChangeShapes Go.WideShapes Go.ChangeAt Go.RowKit Go.WideMaps Go.WideElems Go.Deep Go.Joins IH
set_option maxRecDepth 100000
/-- Where x[l:] of such a slice begins. -/
def sliceA (A : Option Addr) (c l : Nat) : Option Addr := if c = l then A else A.map (·.add (l * 1))
theorem sub_any {w : World} {B n c : Nat} {A : Option Addr} {L : List UInt8} (hin : SliceIn w B 1 A n c (bytesV L)) (l h : Nat) (hlh : l ≤ h) (hh : h ≤ n) : SliceIn w B 1 (sliceA A c l) (h - l) (c - l) (bytesV ((L.take h).drop l)) := by
  have h0 := hin.sub (a := l) (b := h) hlh hh (sliceA A c l) (fun hlt => by unfold sliceA; rw [if_neg (by have := hin.2.1; omega)])
  rw [Nat.mul_one, Nat.mul_one] at h0
  have e : ((bytesV L).drop l).take (h - l) = bytesV ((L.take h).drop l) := by
    simp only [bytesV, ← List.map_drop, ← List.map_take]
    rw [List.drop_take]
  rw [e] at h0
  exact h0
theorem take_any {w : World} {B n c : Nat} {A A' : Option Addr} {L : List UInt8} (hin : SliceIn w B 1 A n c (bytesV L)) (k : Nat) (hk : k ≤ n) (hA : 0 < k → A' = A) : SliceIn w B 1 A' k c (bytesV (L.take k)) := by
  have hl : L.length = n := by have := hin.1; rw [bytesV_length] at this; omega
  refine ⟨by rw [bytesV_length, List.length_take]; omega, by have := hin.2.1; omega, hin.2.2.1, fun h0 => ?_⟩
  obtain ⟨b, o, hA2, hb, hc⟩ := hin.2.2.2 (by omega)
  refine ⟨b, o, by rw [hA h0, hA2], hb, fun j u hu => hc j u ?_⟩
  rw [bytesV_get] at hu ⊢
  rw [List.getElem?_take] at hu
  split at hu
  · exact hu
  · simp at hu
theorem wpList_slice_lh {P : Program} {w : World} {ops : Array Oper} {rest : List Oper} {o : Oper} {a : Act} {Q : Exit → Act → World → Prop} (hgd : o.guard = none) (t e : TypeId) (s lo hi : Operand) (ho : o.op = .slice t s (some lo) (some hi) none)
    (ht : P.underlying t = some (.slice e)) (hsz : (P.info? e).map (·.size) = some 1) (A : Option Addr) (n c l h : Nat) (hs : a.eval s = .slice A n c) (hlo : a.eval lo = .int .i64 l) (hhi : a.eval hi = .int .i64 h) (h1 : l ≤ h) (h2 : h ≤ c)
    (hK : wpList P ops Q rest (a.put o.dst (.slice (sliceA A c l) (h - l) (c - l))) w) : wpList P ops Q (o :: rest) a w := by
  refine wpList_plain hgd fun K hK' => ?_
  have hel : P.elem t = e := by simp [Program.elem, ht]
  have hszE : (sizeOf (P.elem t)).run P w = .ok 1 w := by
    rw [hel]
    cases hq : P.info? e with
    | none => rw [hq] at hsz; simp at hsz
    | some i =>
      rw [hq] at hsz
      simp only [Option.map_some, Option.some.injEq] at hsz
      simp [sizeOf, typeInfo, hq, hsz]
  have hrun := run_slice_lh (P := P) (w := w) t A n c (by rw [hel]; exact ht) .i64 .i64 (l : Int) (h : Int) (by omega) (by omega) (by omega)
  have hat := run_sliceAt_slice (P := P) (w := w) t (.slice A n c) (some (.int .i64 l)) (some (.int .i64 h)) none (by rw [hel]; exact ht)
  unfold Oper.wp execOp
  simp only [ho, hs, hlo, hhi, Option.map_some, Option.map_none, Sem.run_bind, Sem.run_pure, Result.andThen_ok, hat, hrun, hszE]
  exact hK' _ _ hK
set_option maxHeartbeats 4000000 in
theorem rdtake_fault (g dg : Nat) (r : Rd) (F : Value) (A : Option Addr) (m k : Nat) (w : World) (hr : RowAt w g 110 (rdV dg r F)) (hf : r.fault ≠ 0) :
    Calls Tryz.prog 23 #[.pointer (some ⟨g, 0, none⟩), .slice A m k] w fun e w' => e = .returned (.tuple #[.slice none 0 0, .int .i64 0, .int .i64 r.fault]) ∧ Below w.heap.size w w' := by
  have d13 := hr.cell (j := 13) rfl
  have hb : (r.fault == 0) = false := by rw [beq_eq_false_iff_ne]; exact hf
  obtain ⟨ft, hft⟩ : ∃ x, r.fault = x := ⟨_, rfl⟩
  rw [hft] at d13 hb ⊢
  clear hr hf hft
  go_enter Tryz.func23, Tryz.ntmps23
  go_wp2
  go_loopw [7, 8] (fun ov av wr => ov = .slice none 0 0 ∧ av = .int .i64 0 ∧ w = wr) (fun _ _ _ => 0)
  case atStart => exact ⟨rfl, rfl, by first | rfl | trivial⟩
  case round =>
    obtain ⟨rfl, rfl, hwr⟩ := hrel
    subst wr
    go_wp2
    go_region
    go_wp2
    go_ret3
    exact ⟨rfl, below_drewN (Below.refl _ _) 1⟩
section
variable {H : Type} {enc : TypeId × Value → H} {w : World} {base b0 : Nat} {spare : Nat → Bool} {held : Bool} {r : Reach}
theorem open_how {v : Value} {d : DataW H} {p : List MemPlace} (hval : Value.okWide Tryz.prog w r b0 40 v) (h : DataW.Trod enc Tryz.prog w base spare held 40 v d p) :
    ∃ (b : Bool) (M : ByteArray) (A : Option Addr) (n c : Nat) (K : List UInt8), v = .agg #[.bool b, .string M, .slice A n c] ∧ SliceIn w w.heap.size 1 A n c (bytesV K) ∧ M.size ≤ maxLen := by
  obtain ⟨c0, c1, c2, y0, y1, y2, m, rfl, rfl, rfl, hy0, hy1, hy2⟩ := open_agg3 Tryz.underlying40 (by kernel_rfl) (by kernel_rfl) hval h
  obtain ⟨x, e0, rfl⟩ := DataW.trod_bool Tryz.underlying4 hy0
  obtain ⟨y, e1, rfl, wy⟩ := DataW.trod_string Tryz.underlying9 hy1
  obtain ⟨A, n, c, K, e2, hK⟩ := trod_bytesM_in Tryz.underlying38 Tryz.underlying5 (by kernel_rfl) hy2
  simp only [List.cons.injEq, and_true] at e0 e1
  subst e0 e1 e2
  exact ⟨x, y, A, n, c, K, rfl, hK, wy⟩
end
end Go.Proofs.YteocdpkenlkmbaaGreatDoor
