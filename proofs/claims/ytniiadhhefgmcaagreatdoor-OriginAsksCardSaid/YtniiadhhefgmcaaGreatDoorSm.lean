/- Sm: several texts, one behind the other. -/
import Derived.Test.YtniiadhhefgmcaaGreatDoorTe
import Derived.Test.YtniiadhhefgmcaaGreatDoorKt
import Derived.Test.YtniiadhhefgmcaaGreatDoorPr
import Derived.Test.YtniiadhhefgmcaaGreatDoorOp
import Derived.Test.YtniiadhhefgmcaaGreatDoorOc
/- Layer 8's laws: is a message not too great (icehouselaw08.small). Condition: the message's own. -/
namespace Go.Proofs.YtniiadhhefgmcaaGreatDoor
open Go.RowKit IH
set_option maxRecDepth 100000
structure SmallM (s : Sta) (L : List Fld) (X : List UInt8) (m : Nat) : Prop where
  me : s.method.length ≤ 100
  ta : s.target.length ≤ 2000
  re : s.reason.length ≤ 500
  fn : L.length ≤ 140
  bo : X.length ≤ 3000
  mm : m ≤ 100
  fs : ∀ f ∈ L, f.1.length ≤ 200 ∧ f.2.length ≤ 500
end Go.Proofs.YtniiadhhefgmcaaGreatDoor

/- What a message that is not too great is within: its print is short, its lists are few. Condition: the message's own. -/
namespace Go.Proofs.YtniiadhhefgmcaaGreatDoor
open Go.RowKit IH
section
variable {s : Sta} {L : List Fld} {X : List UInt8} {m : Nat}
theorem SmallM.sizeF (h : SmallM s L X m) : sizeL L ≤ 140562 := by
  have h1 := sizeL_bd 500 L (fun f hf => ⟨by have := (h.fs f hf).1; omega, (h.fs f hf).2⟩)
  have h2 : L.length * (2 * 500 + 4) ≤ 140 * 1004 := Nat.mul_le_mul h.fn (Nat.le_refl _)
  omega
theorem SmallM.fldB (h : SmallM s L X m) : FldB L L.length :=
  ⟨by have := h.fn; omega, fun f hf => ⟨by have := (h.fs f hf).1; omega, by have := (h.fs f hf).2; omega⟩, by have := h.sizeF; omega⟩
theorem SmallM.smallF (h : SmallM s L X m) : smallF 1000000000 L := h.fldB.f
theorem SmallM.prS (h : SmallM s L X m) : (printS s).length ≤ 3000 := by
  have h1 := pN_len s.minor
  have h2 := pN_len s.status
  have h3 := h.me
  have h4 := h.ta
  have h5 := h.re
  have h6 : http1.length ≤ 100 := by decide
  unfold printS
  split <;> simp only [List.length_append, List.length_cons, List.length_nil] <;> omega
theorem SmallM.print (h : SmallM s L X m) (M : List UInt8) : (printM ⟨s, L, X⟩ M).length ≤ 200000 := by
  have h1 := h.prS
  have h2 := h.sizeF
  have h3 := printL_size L
  have h4 := h.bo
  have h5 := encL_len8 [X] (fun p hp => by rw [List.mem_singleton.1 hp]; omega)
  have h6 : IH.total [X] = X.length := by simp [IH.total]
  unfold printM
  simp only [List.length_append]
  simp only [List.length_cons, List.length_nil] at h5
  split <;> omega
end
end Go.Proofs.YtniiadhhefgmcaaGreatDoor

/- Layer 23's laws: OriginSends, walked. Condition: the world's shape. Printed by mklaw23a.py. -/
namespace Go.Proofs.YtniiadhhefgmcaaGreatDoor
open Go.RowKit IH
set_option maxRecDepth 100000
structure ShortM (L : List Fld) (n : Nat) : Prop where
  l : L.length ≤ 40
  n : n ≤ 2000
  f : ∀ f ∈ L, f.1.length ≤ 300 ∧ f.2.length ≤ 500
theorem shortM_is {L : List Fld} {n : Nat} (h : shortM L n = true) : ShortM L n := by
  simp only [shortM, Bool.and_eq_true, List.all_eq_true, decide_eq_true_eq] at h
  exact ⟨h.1, h.2.1, fun f hf => h.2.2 f hf⟩
section
variable {L : List Fld} {X : List UInt8} {s : Sta}
theorem ShortM.sizeF {n : Nat} (h : ShortM L n) : sizeL L ≤ 40162 := by
  have h1 := sizeL_bd 500 L (fun f hf => ⟨by have := (h.f f hf).1; omega, (h.f f hf).2⟩)
  have h2 : L.length * (2 * 500 + 4) ≤ 40 * 1004 := Nat.mul_le_mul h.l (Nat.le_refl _)
  omega
theorem ShortM.fldB {n : Nat} (h : ShortM L n) : FldB L L.length :=
  ⟨by have := h.l; omega, fun f hf => ⟨by have := (h.f f hf).1; omega, by have := (h.f f hf).2; omega⟩, by have := h.sizeF; omega⟩
end

end Go.Proofs.YtniiadhhefgmcaaGreatDoor

