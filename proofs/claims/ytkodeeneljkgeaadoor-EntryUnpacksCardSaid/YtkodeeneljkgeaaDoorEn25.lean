/- Walks of layer 19: a text at a place, by the document: the good way. Condition: at most 10^9 octets. -/
import Derived.Test.YtkodeeneljkgeaaDoorEn24
namespace Go.Proofs.YtkodeeneljkgeaaDoor
open Go.RowKit IH
set_option maxRecDepth 100000
theorem said_ok (B b0 off n c : Nat) (l : List UInt8) (p : Nat) (w : World) (hin : SliceIn w B 1 (some ⟨b0, off, none⟩) n c (bytesV l)) (hn : n ≤ 1000000000) (hb : p + 2 ≤ n) (v : Nat) (hv : valB ((l.drop p).take 2) = v) (hv2 : v < 65536) (hb2 : p + 2 + v ≤ n) :
    Calls Tryd.prog 21 #[.slice (some ⟨b0, off, none⟩) n c, .int .i64 p] w fun e w' => e = .returned (.tuple #[.string ⟨((l.drop (p + 2)).take v).toArray⟩, .int .i64 ((p + 2 + v : Nat) : Int), .bool true]) ∧ w = w' := by
  have g := got_ok B (some ⟨b0, off, none⟩) n c l p 2 w hin hn (by omega) hb
  rw [hv, i64_small (by omega), show ((2 : Nat) : Int) = 2 from rfl] at g
  have G := Lib.hid g
  have w1 : IntKind.i64.wrap ((p : Int) + 2) = (p : Int) + 2 := IntWalk.i64_in _ ⟨by omega, by omega⟩
  have w2 : IntKind.i64.wrap ((p : Int) + 2 + (v : Int)) = (p : Int) + 2 + (v : Int) := IntWalk.i64_in _ ⟨by omega, by omega⟩
  have hb3 : ¬ (n : Int) < (p : Int) + 2 + (v : Int) := by omega
  have hlc := hin.2.1
  have S2 : ∀ A', (0 < v → A' = some ⟨b0, off + (p + 2), none⟩) → SliceIn w B 1 A' v (c - (p + 2)) (bytesV ((l.drop (p + 2)).take v)) := fun A' hA => by
    have h := hin.sub (a := p + 2) (b := p + 2 + v) (by omega) hb2 A' (fun hlt => by rw [hA (by omega)]; simp [add_plain])
    rw [show p + 2 + v - (p + 2) = v by omega, show (p + 2) * 1 = p + 2 by omega, show v * 1 = v by omega] at h
    rw [show bytesV ((l.drop (p + 2)).take v) = ((bytesV l).drop (p + 2)).take v by simp [bytesV, List.map_take, List.map_drop]]
    exact h
  have r1 := fun A' hA => run_string_of (P := Tryd.prog) (S2 A' hA) 22 9 5 Tryd.underlying22 Tryd.underlying5 Tryd.underlying9
  have q1 : (0 : Int) ≤ (p : Int) + 2 := by omega
  have q2 : (p : Int) + 2 ≤ (p : Int) + 2 + (v : Int) := by omega
  have q3 : (p : Int) + 2 + (v : Int) ≤ (c : Int) := by omega
  have q4 : ((p : Int) + 2).toNat = p + 2 := by omega
  have q5 : ((p : Int) + 2 + (v : Int)).toNat = p + 2 + v := by omega
  clear hin g hv
  have qc : ((p + 2 + v : Nat) : Int) = (p : Int) + 2 + (v : Int) := by omega
  rw [qc]
  by_cases hcp : c = p + 2
  · obtain rfl : v = 0 := by omega
    have r2 := r1 (some ⟨b0, off, none⟩) (fun h => absurd h (by omega))
    rw [hcp, Nat.sub_self] at r2
    subst hcp
    clear r1 S2
    go_enter Tryd.func21, Tryd.ntmps21
    go_wp2_with (go_at_call 20; (with_reducible refine G.out.mono ?_); rintro e w2 ⟨rfl, rfl⟩)
    go_ret3
    exact ⟨by simp, rfl⟩
  · have r2 := r1 (some ⟨b0, off + (p + 2), none⟩) (fun _ => rfl)
    clear r1 S2
    go_enter Tryd.func21, Tryd.ntmps21
    go_wp2_with (go_at_call 20; (with_reducible refine G.out.mono ?_); rintro e w2 ⟨rfl, rfl⟩)
    go_ret3
    exact ⟨rfl, rfl⟩
end Go.Proofs.YtkodeeneljkgeaaDoor
