/- Walks of layer 3's document: what is wrong with fields; fields as a header; and the code's Right. Condition: at most 10^6 fields, texts within 10^9 octets. -/
import Derived.Test.YtniiadhhefgmcaaGreatDoorFq
namespace Go.Proofs.YtniiadhhefgmcaaGreatDoor
open Go.RowKit IH
set_option maxRecDepth 100000
theorem fRight_any (A : Option Addr) (n c : Nat) (L : List Fld) (w : World) (hin : SliceIn w w.heap.size 2 A n c (fldsV L)) (hs : n ≤ 1000000) (hm : smallF 1000000000 L) :
    Calls Tryz.prog 106 #[.slice A n c] w fun e w' => e = .returned (.bool (faultL L == 0)) ∧ Below w.heap.size w w' := by
  have FA := fault_any A n c L w hin hs hm
  generalize faultL L = fl at *
  replace FA := Lib.hid FA
  clear hin hm
  go_enter Tryz.func106, Tryz.ntmps106
  go_wp2_with (go_at_call 108; refine FA.out.mono ?_; rintro e w1 ⟨rfl, hb1⟩)
  go_ret
  exact ⟨rfl, hb1⟩
end Go.Proofs.YtniiadhhefgmcaaGreatDoor

