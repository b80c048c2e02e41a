/- Pr: several texts, one behind the other. -/
import Derived.Test.YtniiadhhefgmcaaGreatDoorLz
import Derived.Test.YtniiadhhefgmcaaGreatDoorOz
import Derived.Test.YtniiadhhefgmcaaGreatDoorKt
import Derived.Test.YtniiadhhefgmcaaGreatDoorTe
import Derived.Test.YtniiadhhefgmcaaGreatDoorFie14
import Derived.Test.YtniiadhhefgmcaaGreatDoorSx
import Derived.Test.YtniiadhhefgmcaaGreatDoorCh
import Derived.Test.YtniiadhhefgmcaaGreatDoorFq
/- Walks of layer 6: a first line written, by the document. Condition: its texts within 10^9 octets, its numbers within int64. -/
namespace Go.Proofs.YtniiadhhefgmcaaGreatDoor
open Go.RowKit IH
set_option maxRecDepth 100000
structure StaB (s : Sta) : Prop where
  m : s.method.length ≤ 1000000000
  t : s.target.length ≤ 1000000000
  r : s.reason.length ≤ 1000000000
  s1 : s.status ≤ 9223372036854775807
  mi : s.minor ≤ 9223372036854775807
theorem StaB.sta {s : Sta} (h : StaB s) : StaS s := ⟨by have := h.m; omega, by have := h.t; omega, h.r⟩
theorem pN_len (n : Int) : (printN n 10).length ≤ 64 := digs_length _ _ _
end Go.Proofs.YtniiadhhefgmcaaGreatDoor

/- Layer 8: is a message right, by the document. Condition: lengths within the bounds named. Printed by mkpri1.py. -/
namespace Go.Proofs.YtniiadhhefgmcaaGreatDoor
open Go.RowKit IH
set_option maxRecDepth 100000
end Go.Proofs.YtniiadhhefgmcaaGreatDoor

/- Layer 8: a message written, by the document. Condition: lengths within the bounds named. Printed by mkpri2.py. -/
namespace Go.Proofs.YtniiadhhefgmcaaGreatDoor
open Go.RowKit IH
set_option maxRecDepth 100000
theorem piece_one {w : World} {B : Nat} {A : Option Addr} {n c : Nat} {p : List UInt8} (hs : SliceIn w B 1 A n c (bytesV p)) : PiecesR w B [p] [.slice A n c] := by
  refine ⟨rfl, fun i l h => ?_⟩
  cases i with
  | zero =>
    simp only [List.getElem?_cons_zero, Option.some.injEq] at h
    subst h
    exact ⟨A, n, c, rfl, hs⟩
  | succ i => simp at h
theorem printL_size (L : List Fld) : (printL L).length = sizeL L := by
  unfold printL sizeL
  rw [List.length_append, List.length_flatMap]
  congr 2
  simp only [line1, List.length_append, List.length_cons, List.length_nil]
  apply List.map_congr_left
  intro f _
  omega
theorem encL_len8 (ps : List (List UInt8)) (h : ∀ p ∈ ps, p.length ≤ 10000000) : (encL ps).length ≤ IH.total ps + 11 * ps.length + 5 := by
  unfold encL
  have := enc_len ps h
  rw [List.length_append]
  simp only [List.length_cons, List.length_nil]
  omega
end Go.Proofs.YtniiadhhefgmcaaGreatDoor

