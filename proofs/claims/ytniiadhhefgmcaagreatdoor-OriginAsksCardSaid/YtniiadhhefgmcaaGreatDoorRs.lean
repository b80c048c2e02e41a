/- Rs: several texts, one behind the other. -/
import Derived.Test.YtniiadhhefgmcaaGreatDoorKt
import Derived.Deep.MidRow
/- A struct loaded whole out of a block known from its head, guarded or not: one step, the struct one letter. Condition: the block's cells are known. -/
namespace Go.Proofs.YtniiadhhefgmcaaGreatDoor
open Go Go.RowKit
theorem rangeOf {w : World} {g : Nat} {e : TypeId} {cs : List Value} (h : RowAt w g e cs) : w.rangeAt g 0 cs := fun j v hj => by rw [Nat.zero_add]; exact h.cell hj
theorem wpList_load_g {P : Program} {ops : Array Oper} {rest : List Oper} {op : Oper} {a : Act} {w : World} {Q : Exit → Act → World → Prop} (hw : Region.wanted op (yielded ops a.tmps) = true) (ty : TypeId) (x : Operand) (ho : op.op = .load ty x)
    (b o : Nat) (hx : a.eval x = .pointer (some ⟨b, o, none⟩)) (cs : List Value) (d : TypeDesc) (hc : w.rangeAt b o cs)
    (hu : P.underlying ty = some d) (hd : d.isRow = true) (hi : (P.info? ty).map (·.size) = some cs.length)
    (h : wpList P ops Q rest (a.put op.dst (.agg cs.toArray)) w) : wpList P ops Q (op :: rest) a w := by
  unfold wpList
  rw [if_pos hw]
  exact .inl (wp_load_mid ty x ho b o hx cs d hc hu hd hi h)
end Go.Proofs.YtniiadhhefgmcaaGreatDoor

/- Results that live in cells, read behind a function's end. Condition: the cells are known. -/
namespace Go.Proofs.YtniiadhhefgmcaaGreatDoor
open Go Go.RowKit
theorem results_cell {P : Program} {fn : Func} {t : Tmp} {ty : TypeId} (h : fn.results = #[.cell t ty]) (tmps : Array Value) (w : World) (a : Addr) (ht : tmps.getD t undef = .pointer (some a)) (v : Value) (hl : (loadVar ty a).run P w = .ok v w) :
    (results fn tmps).run P w = .ok v w := by
  simp only [Array.getD_eq_getD_getElem?] at ht
  simp [results, h, ht, asAddr, hl]
end Go.Proofs.YtniiadhhefgmcaaGreatDoor

