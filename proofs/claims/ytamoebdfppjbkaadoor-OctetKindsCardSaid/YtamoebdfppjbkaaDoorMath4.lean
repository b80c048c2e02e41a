/- Layer 1 in plain Lean: quoted texts. No program in sight; no condition. -/
import Derived.Test.YtamoebdfppjbkaaDoorMath1
namespace IH

/-- What a quoted text says from a place on, how long it is, the error's number. -/
def unqF : List UInt8 → Nat → List UInt8 → List UInt8 × Int × Int
  | _, _, [] => ([], 0, 10)
  | acc, k, c :: r =>
    if c = 34 then (acc, (k : Int) + 1, 0)
    else if c = 92 then
      match r with
      | [] => ([], 0, 10)
      | d :: r' => if isPlain d then unqF (acc ++ [d]) (k + 2) r' else ([], 0, 10)
    else if isPlain c then unqF (acc ++ [c]) (k + 1) r else ([], 0, 10)
def unquote (l : List UInt8) : List UInt8 × Int × Int :=
  match l with
  | [] => ([], 0, 10)
  | c :: r => if c = 34 then unqF [] 1 r else ([], 0, 10)

theorem unqF_nil (acc : List UInt8) (k : Nat) : unqF acc k [] = ([], 0, 10) := by unfold unqF; rfl
theorem unqF_end (acc : List UInt8) (k : Nat) (r : List UInt8) : unqF acc k (34 :: r) = (acc, (k : Int) + 1, 0) := by unfold unqF; simp
theorem unqF_esc_nil (acc : List UInt8) (k : Nat) : unqF acc k [92] = ([], 0, 10) := by unfold unqF; simp
theorem unqF_esc (acc : List UInt8) (k : Nat) (d : UInt8) (r : List UInt8) : unqF acc k (92 :: d :: r) = if isPlain d then unqF (acc ++ [d]) (k + 2) r else ([], 0, 10) := by
  conv => lhs; unfold unqF
  simp
theorem unqF_plain (acc : List UInt8) (k : Nat) (c : UInt8) (r : List UInt8) (h1 : c ≠ 34) (h2 : c ≠ 92) : unqF acc k (c :: r) = if isPlain c then unqF (acc ++ [c]) (k + 1) r else ([], 0, 10) := by
  conv => lhs; unfold unqF
  simp [h1, h2]
end IH
