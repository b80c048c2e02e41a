/- A plain region, further: an operation whose guard was itself left out. No condition. -/
import Derived.Test.YtclgkkencpkjpaaGreatDoorKt
namespace Go.Proofs.YtclgkkencpkjpaaGreatDoor
open Go Go.RowKit
theorem wanted_und {ops : Array Oper} {o o' : Oper} {j d : Nat} {c : Bool} {tmps : Array Value} (hg : o.guard = some (j, c)) (ho : nth ops.toList j = some o') (hd : o'.dst = some d) (hv : nth tmps.toList d = some undef) : Region.wanted o (yielded ops tmps) = false := by
  rw [nth_eq] at ho hv
  have h1 : ops[j]? = some o' := by simpa using ho
  have h2 : tmps[d]? = some undef := by simpa using hv
  unfold Region.wanted yielded
  rw [hg]
  simp only [h1, Option.bind_some, hd, h2]
  cases c <;> rfl
end Go.Proofs.YtclgkkencpkjpaaGreatDoor
