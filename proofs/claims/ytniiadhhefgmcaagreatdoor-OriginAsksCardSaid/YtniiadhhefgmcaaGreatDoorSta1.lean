/- Layer 6 in plain Lean: first lines of requests and responses, read and written. No program in sight; no condition. -/
import Derived.Test.YtniiadhhefgmcaaGreatDoorPm
namespace IH
set_option maxRecDepth 100000

structure Sta where
  method : List UInt8
  target : List UInt8
  status : Int
  reason : List UInt8
  minor : Int
def Sta.zero : Sta := ⟨[], [], 0, [], 0⟩
/-- Up to the first LF, without CR; how long; the error. -/
def lineS (most : Nat) (b : List UInt8) : List UInt8 × Nat × Int :=
  match (b.take (most + 1)).findIdx? (· == 10) with
  | none => if b.length ≤ most then ([], 0, 11) else ([], 0, 12)
  | some k => if k = 0 ∨ b[k - 1]? ≠ some 13 then ([], 0, 10) else (b.take (k - 1), k + 1, 0)
def vis6 (s : List UInt8) : Bool := !s.isEmpty && s.all fun c => 33 ≤ c.toNat && c.toNat ≤ 126
/-- "HTTP/1." -/
def http1 : List UInt8 := [72, 84, 84, 80, 47, 49, 46]
def minorP (s : List UInt8) : Option Int := if s = http1 ++ [48] then some 0 else if s = http1 ++ [49] then some 1 else none
/-- The line of a request, by its pieces. -/
def reqC (s : List UInt8) : Sta × Int := match pieces 32 s with
  | [a, b, c] => if token a = true ∧ vis6 b = true then (match minorP c with
    | none => (Sta.zero, 10)
    | some m => if 32 < a.length ∨ 8000 < b.length then (Sta.zero, 12) else (⟨a, b, 0, [], m⟩, 0)) else (Sta.zero, 10)
  | _ => (Sta.zero, 10)
def spW (s : List UInt8) : List UInt8 := s.takeWhile (· != 32)
def spR (s : List UInt8) : List UInt8 := (s.dropWhile (· != 32)).drop 1
theorem sp_cut {s : List UInt8} (h : 32 ∈ s) : s = spW s ++ 32 :: spR s ∧ ∀ c ∈ spW s, c ≠ 32 := by
  obtain ⟨a, b, rfl, ha⟩ := List.eq_append_cons_of_mem h
  have ha' : ∀ c ∈ a, c ≠ 32 := fun c hc e => ha (e ▸ hc)
  have key : ∀ a : List UInt8, (∀ c ∈ a, c ≠ 32) → (a ++ 32 :: b).takeWhile (· != 32) = a ∧ (a ++ 32 :: b).dropWhile (· != 32) = 32 :: b := by
    intro a
    induction a with
    | nil => intro _; simp
    | cons c a ih =>
      intro h
      have h1 := h c (by simp)
      have h2 := ih fun d hd => h d (by simp [hd])
      simp [h1, h2.1, h2.2]
  obtain ⟨h1, h2⟩ := key a ha'
  unfold spW spR
  rw [h1, h2]
  exact ⟨rfl, ha'⟩
/-- The line of a response, by its first two blanks. -/
def respC (s : List UInt8) : Sta × Int :=
  if 32 ∈ s ∧ 32 ∈ spR s then
    match minorP (spW s) with
    | none => (Sta.zero, 10)
    | some m =>
      if (numR 10 999 (spW (spR s))).2 ≠ 0 ∨ (spW (spR s)).length ≠ 3 ∨ (numR 10 999 (spW (spR s))).1 < 100 ∨ value (spR (spR s)) = false then (Sta.zero, 10)
      else if 200 < (spR (spR s)).length then (Sta.zero, 12) else (⟨[], [], (numR 10 999 (spW (spR s))).1, spR (spR s), m⟩, 0)
  else (Sta.zero, 10)
def requestL (b : List UInt8) : Sta × Int × Int := if (lineS 8200 b).2.2 ≠ 0 then (Sta.zero, 0, (lineS 8200 b).2.2) else if (reqC (lineS 8200 b).1).2 ≠ 0 then (Sta.zero, 0, (reqC (lineS 8200 b).1).2) else ((reqC (lineS 8200 b).1).1, (lineS 8200 b).2.1, 0)
def responseL (b : List UInt8) : Sta × Int × Int := if (lineS 300 b).2.2 ≠ 0 then (Sta.zero, 0, (lineS 300 b).2.2) else if (respC (lineS 300 b).1).2 ≠ 0 then (Sta.zero, 0, (respC (lineS 300 b).1).2) else ((respC (lineS 300 b).1).1, (lineS 300 b).2.1, 0)

/-! Written. -/
def asks6 (s : Sta) : Bool := token s.method && decide (s.method.length ≤ 32) && vis6 s.target && decide (s.target.length ≤ 8000) && decide (s.status = 0) && s.reason.isEmpty
def answers6 (s : Sta) : Bool := s.method.isEmpty && s.target.isEmpty && decide (100 ≤ s.status) && decide (s.status ≤ 999) && value s.reason && decide (s.reason.length ≤ 200)
def right6 (s : Sta) : Bool := (decide (s.minor = 0) || decide (s.minor = 1)) && (asks6 s || answers6 s)
def printS (s : Sta) : List UInt8 :=
  if s.status = 0 then s.method ++ 32 :: (s.target ++ 32 :: (http1 ++ printN s.minor 10 ++ [13, 10])) else http1 ++ printN s.minor 10 ++ 32 :: (printN s.status 10 ++ 32 :: (s.reason ++ [13, 10]))
end IH

