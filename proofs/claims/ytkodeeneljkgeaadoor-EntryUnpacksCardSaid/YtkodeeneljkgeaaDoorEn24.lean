/- Walks of layer 19: a text at a place, by the document. Condition: at most 10^9 octets. -/
import Derived.Test.YtkodeeneljkgeaaDoorEn23
namespace Go.Proofs.YtkodeeneljkgeaaDoor
open Go.RowKit IH
set_option maxRecDepth 100000
theorem said_bad1 (B : Nat) (A : Option Addr) (n c : Nat) (l : List UInt8) (p : Nat) (w : World) (hin : SliceIn w B 1 A n c (bytesV l)) (hn : n ≤ 1000000000) (hp : p ≤ 1000000000) (hb : n < p + 2) :
    Calls Tryd.prog 21 #[.slice A n c, .int .i64 p] w fun e w' => e = .returned (.tuple #[.string ⟨#[]⟩, .int .i64 0, .bool false]) ∧ w = w' := by
  have g := got_bad B A n c l p 2 w hin hn hp (by omega) hb
  rw [show ((2 : Nat) : Int) = 2 from rfl] at g
  have G := Lib.hid g
  clear hin g
  go_enter Tryd.func21, Tryd.ntmps21
  go_wp2_with (go_at_call 20; (with_reducible refine G.out.mono ?_); rintro e w2 ⟨rfl, rfl⟩)
  go_ret3
  exact ⟨rfl, rfl⟩
theorem said_bad2 (B : Nat) (A : Option Addr) (n c : Nat) (l : List UInt8) (p : Nat) (w : World) (hin : SliceIn w B 1 A n c (bytesV l)) (hn : n ≤ 1000000000) (hb : p + 2 ≤ n) (v : Nat) (hv : valB ((l.drop p).take 2) = v) (hv2 : v < 65536) (hb2 : n < p + 2 + v) :
    Calls Tryd.prog 21 #[.slice A n c, .int .i64 p] w fun e w' => e = .returned (.tuple #[.string ⟨#[]⟩, .int .i64 0, .bool false]) ∧ w = w' := by
  have g := got_ok B A n c l p 2 w hin hn (by omega) hb
  rw [hv, i64_small (by omega), show ((2 : Nat) : Int) = 2 from rfl] at g
  have G := Lib.hid g
  have w1 : IntKind.i64.wrap ((p : Int) + 2) = (p : Int) + 2 := IntWalk.i64_in _ ⟨by omega, by omega⟩
  have w2 : IntKind.i64.wrap ((p : Int) + 2 + (v : Int)) = (p : Int) + 2 + (v : Int) := IntWalk.i64_in _ ⟨by omega, by omega⟩
  have hb3 : (n : Int) < (p : Int) + 2 + (v : Int) := by omega
  clear hin g hv
  go_enter Tryd.func21, Tryd.ntmps21
  go_wp2_with (go_at_call 20; (with_reducible refine G.out.mono ?_); rintro e w2 ⟨rfl, rfl⟩)
  go_ret3
  exact ⟨rfl, rfl⟩
end Go.Proofs.YtkodeeneljkgeaaDoor
