/- Layer 6 in plain Lean: first lines of requests and responses, read and written. No program in sight; no condition. -/
import Derived.Test.YtniiadhhefgmcaaGreatDoorPm
namespace IH
set_option maxRecDepth 100000

structure Sta where
  method : List UInt8
  target : List UInt8
  status : Int
  reason : List UInt8
  minor : Int
def Sta.zero : Sta := ⟨[], [], 0, [], 0⟩
/-- Up to the first LF, without CR; how long; the error. -/
def lineS (most : Nat) (b : List UInt8) : List UInt8 × Nat × Int :=
  match (b.take (most + 1)).findIdx? (· == 10) with
  | none => if b.length ≤ most then ([], 0, 11) else ([], 0, 12)
  | some k => if k = 0 ∨ b[k - 1]? ≠ some 13 then ([], 0, 10) else (b.take (k - 1), k + 1, 0)
def vis6 (s : List UInt8) : Bool := !s.isEmpty && s.all fun c => 33 ≤ c.toNat && c.toNat ≤ 126
/-- "HTTP/1." -/
def http1 : List UInt8 := [72, 84, 84, 80, 47, 49, 46]
def minorP (s : List UInt8) : Option Int := if s = http1 ++ [48] then some 0 else if s = http1 ++ [49] then some 1 else none
def verL (m : Int) : List UInt8 := if m = 0 then http1 ++ [48] else http1 ++ [49]
/-- The line of a request, by its pieces. -/
def reqC (s : List UInt8) : Sta × Int := match pieces 32 s with
  | [a, b, c] => if token a = true ∧ vis6 b = true then (match minorP c with
    | none => (Sta.zero, 10)
    | some m => if 32 < a.length ∨ 8000 < b.length then (Sta.zero, 12) else (⟨a, b, 0, [], m⟩, 0)) else (Sta.zero, 10)
  | _ => (Sta.zero, 10)
def spW (s : List UInt8) : List UInt8 := s.takeWhile (· != 32)
def spR (s : List UInt8) : List UInt8 := (s.dropWhile (· != 32)).drop 1
/-- The same, by its first two blanks. -/
def reqR (s : List UInt8) : Sta × Int :=
  if 32 ∈ s ∧ 32 ∈ spR s then
    match minorP (spR (spR s)) with
    | none => (Sta.zero, 10)
    | some m => if token (spW s) = true ∧ vis6 (spW (spR s)) = true then
        (if 32 < (spW s).length ∨ 8000 < (spW (spR s)).length then (Sta.zero, 12) else (⟨spW s, spW (spR s), 0, [], m⟩, 0)) else (Sta.zero, 10)
  else (Sta.zero, 10)
theorem minor_free {c : List UInt8} {m : Int} (h : minorP c = some m) : (∀ x ∈ c, x ≠ 32) ∧ c = verL m ∧ (m = 0 ∨ m = 1) := by
  unfold minorP at h
  split at h
  · rename_i hc
    simp only [Option.some.injEq] at h
    subst h hc
    exact ⟨by decide, rfl, .inl rfl⟩
  · split at h
    · rename_i hc
      simp only [Option.some.injEq] at h
      subst h hc
      exact ⟨by decide, rfl, .inr rfl⟩
    · cases h
theorem minor_ver {m : Int} (h : m = 0 ∨ m = 1) : minorP (verL m) = some m := by rcases h with rfl | rfl <;> decide
theorem sp_cut {s : List UInt8} (h : 32 ∈ s) : s = spW s ++ 32 :: spR s ∧ ∀ c ∈ spW s, c ≠ 32 := by
  obtain ⟨a, b, rfl, ha⟩ := List.eq_append_cons_of_mem h
  have ha' : ∀ c ∈ a, c ≠ 32 := fun c hc e => ha (e ▸ hc)
  have key : ∀ a : List UInt8, (∀ c ∈ a, c ≠ 32) → (a ++ 32 :: b).takeWhile (· != 32) = a ∧ (a ++ 32 :: b).dropWhile (· != 32) = 32 :: b := by
    intro a
    induction a with
    | nil => intro _; simp
    | cons c a ih =>
      intro h
      have h1 := h c (by simp)
      have h2 := ih fun d hd => h d (by simp [hd])
      simp [h1, h2.1, h2.2]
  obtain ⟨h1, h2⟩ := key a ha'
  unfold spW spR
  rw [h1, h2]
  exact ⟨rfl, ha'⟩
theorem sp_of {a b : List UInt8} (ha : ∀ c ∈ a, c ≠ 32) : spW (a ++ 32 :: b) = a ∧ spR (a ++ 32 :: b) = b := by
  have hm : (32 : UInt8) ∈ a ++ 32 :: b := by simp
  obtain ⟨h1, h2⟩ := sp_cut hm
  have key : ∀ (x y : List UInt8) (u v : List UInt8), (∀ c ∈ x, c ≠ 32) → (∀ c ∈ y, c ≠ 32) → x ++ 32 :: u = y ++ 32 :: v → x = y ∧ u = v := by
    intro x
    induction x with
    | nil =>
      intro y u v _ hy e
      cases y with
      | nil => simpa using e
      | cons d y =>
        simp only [List.nil_append, List.cons_append, List.cons.injEq] at e
        exact absurd e.1.symm (hy d (by simp))
    | cons c x ih =>
      intro y u v hx hy e
      cases y with
      | nil =>
        simp only [List.nil_append, List.cons_append, List.cons.injEq] at e
        exact absurd e.1 (hx c (by simp))
      | cons d y =>
        simp only [List.cons_append, List.cons.injEq] at e
        obtain ⟨h1, h2⟩ := ih y u v (fun z hz => hx z (by simp [hz])) (fun z hz => hy z (by simp [hz])) e.2
        exact ⟨by rw [e.1, h1], h2⟩
  obtain ⟨e1, e2⟩ := key _ _ _ _ ha h2 h1
  exact ⟨e1.symm, e2.symm⟩
theorem pieces_sp {s : List UInt8} (h : 32 ∈ s) : pieces 32 s = spW s :: pieces 32 (spR s) := by
  obtain ⟨e, f⟩ := sp_cut h
  have := pieces_cut f (spR s)
  rw [← e] at this
  exact this
theorem req_eq (s : List UInt8) : reqC s = reqR s := by
  unfold reqC reqR
  by_cases h1 : 32 ∈ s
  · have p1 := pieces_sp h1
    by_cases h2 : 32 ∈ spR s
    · have p2 := pieces_sp h2
      rw [p1, p2, if_pos ⟨h1, h2⟩]
      by_cases h3 : 32 ∈ spR (spR s)
      · have hm : minorP (spR (spR s)) = none := by
          cases hq : minorP (spR (spR s)) with
          | none => rfl
          | some m => exact absurd rfl ((minor_free hq).1 32 h3)
        rw [hm]
        rw [pieces_sp h3]
        cases hq : pieces 32 (spR (spR (spR s))) with
        | nil => exact absurd hq (pieces_ne _ _)
        | cons x xs => rfl
      · rw [pieces_one (sep := 32) (fun c hc e => h3 (e ▸ hc))]
        simp only
        cases minorP (spR (spR s)) with
        | none => simp
        | some m => rfl
    · rw [p1, pieces_one (sep := 32) (fun c hc e => h2 (e ▸ hc)), if_neg (fun h => h2 h.2)]
  · rw [pieces_one (sep := 32) (fun c hc e => h1 (e ▸ hc)), if_neg (fun h => h1 h.1)]
/-- The line of a response, by its first two blanks. -/
def respC (s : List UInt8) : Sta × Int :=
  if 32 ∈ s ∧ 32 ∈ spR s then
    match minorP (spW s) with
    | none => (Sta.zero, 10)
    | some m =>
      if (numR 10 999 (spW (spR s))).2 ≠ 0 ∨ (spW (spR s)).length ≠ 3 ∨ (numR 10 999 (spW (spR s))).1 < 100 ∨ value (spR (spR s)) = false then (Sta.zero, 10)
      else if 200 < (spR (spR s)).length then (Sta.zero, 12) else (⟨[], [], (numR 10 999 (spW (spR s))).1, spR (spR s), m⟩, 0)
  else (Sta.zero, 10)
/-- The same, place by place. -/
def respR (s : List UInt8) : Sta × Int :=
  if s.length < 13 ∨ s[8]? ≠ some 32 ∨ s[12]? ≠ some 32 then (Sta.zero, 10)
  else
    match minorP (s.take 8) with
    | none => (Sta.zero, 10)
    | some m =>
      if (numR 10 999 ((s.drop 9).take 3)).2 ≠ 0 ∨ (numR 10 999 ((s.drop 9).take 3)).1 < 100 ∨ value (s.drop 13) = false then (Sta.zero, 10)
      else if 200 < (s.drop 13).length then (Sta.zero, 12) else (⟨[], [], (numR 10 999 ((s.drop 9).take 3)).1, s.drop 13, m⟩, 0)
theorem num_free {l : List UInt8} {M : Int} (h : (numR 10 M l).2 = 0) : ∀ c ∈ l, c ≠ 32 := by
  intro c hc e
  subst e
  unfold numR at h
  split at h
  · simp at h
  · have hb : badDig 10 l = true := by
      unfold badDig
      rw [List.any_eq_true]
      exact ⟨32, hc, by decide⟩
    rw [if_pos hb] at h
    simp at h
theorem ver_length (m : Int) : (verL m).length = 8 := by unfold verL; split <;> rfl
theorem resp_eq (s : List UInt8) : respC s = respR s := by
  by_cases hP : ∃ m x r, minorP (verL m) = some m ∧ x.length = 3 ∧ (∀ c ∈ x, c ≠ 32) ∧ s = verL m ++ 32 :: (x ++ 32 :: r)
  · obtain ⟨m, x, r, hm, hx, hf, rfl⟩ := hP
    have hv := (minor_free hm).1
    obtain ⟨a1, a2⟩ := sp_of (b := x ++ 32 :: r) hv
    obtain ⟨b1, b2⟩ := sp_of (b := r) hf
    have hl := ver_length m
    have t1 : (verL m ++ 32 :: (x ++ 32 :: r)).take 8 = verL m := List.take_left' hl
    have d1 : (verL m ++ 32 :: (x ++ 32 :: r)).drop 9 = x ++ 32 :: r := by
      rw [show verL m ++ 32 :: (x ++ 32 :: r) = (verL m ++ [32]) ++ (x ++ 32 :: r) by simp, List.drop_left' (by simp [hl])]
    have d2 : (verL m ++ 32 :: (x ++ 32 :: r)).drop 13 = r := by
      rw [show verL m ++ 32 :: (x ++ 32 :: r) = (verL m ++ 32 :: (x ++ [32])) ++ r by simp, List.drop_left' (by simp [hl, hx])]
    have g1 : (verL m ++ 32 :: (x ++ 32 :: r))[8]? = some 32 := by rw [List.getElem?_append_right (by omega), hl]; rfl
    have g2 : (verL m ++ 32 :: (x ++ 32 :: r))[12]? = some 32 := by
      rw [show verL m ++ 32 :: (x ++ 32 :: r) = (verL m ++ 32 :: x) ++ 32 :: r by simp, List.getElem?_append_right (by simp [hl, hx])]
      simp [hl, hx]
    unfold respC respR
    rw [if_pos ⟨by simp, by rw [a2]; simp⟩, a1, a2, b1, b2, t1, d1, d2, List.take_left' hx, if_neg (by rw [g1, g2]; simp [hl, hx]; omega), hm]
    simp [hx]
  · have hC : respC s = (Sta.zero, 10) := by
      unfold respC
      split
      · rename_i h12
        cases hm : minorP (spW s) with
        | none => rfl
        | some m =>
          simp only
          rw [if_pos]
          rcases Classical.em ((numR 10 999 (spW (spR s))).2 ≠ 0) with h | h
          · exact .inl h
          · rcases Classical.em ((spW (spR s)).length ≠ 3) with h3 | h3
            · exact .inr (.inl h3)
            · exfalso
              obtain ⟨e1, _⟩ := sp_cut h12.1
              obtain ⟨e2, _⟩ := sp_cut h12.2
              obtain ⟨_, ev, ew⟩ := minor_free hm
              exact hP ⟨m, spW (spR s), spR (spR s), minor_ver ew, by omega, num_free (M := 999) (by omega), by conv => lhs; rw [e1, e2, ev]⟩
      · rfl
    have hR : respR s = (Sta.zero, 10) := by
      unfold respR
      split
      · rfl
      · rename_i hs
        cases hm : minorP (s.take 8) with
        | none => rfl
        | some m =>
          simp only
          rw [if_pos]
          rcases Classical.em ((numR 10 999 ((s.drop 9).take 3)).2 ≠ 0) with h | h
          · exact .inl h
          · exfalso
            obtain ⟨_, ev, ew⟩ := minor_free hm
            have h8 : s[8]? = some 32 := by
              rcases Classical.em (s[8]? = some 32) with h | h
              · exact h
              · exact absurd (.inr (.inl h)) hs
            have h12 : s[12]? = some 32 := by
              rcases Classical.em (s[12]? = some 32) with h | h
              · exact h
              · exact absurd (.inr (.inr h)) hs
            have hl : 13 ≤ s.length := by omega
            have e1 : s.drop 8 = 32 :: s.drop 9 := by
              rw [List.drop_eq_getElem_cons (by omega)]
              rw [List.getElem?_eq_getElem (by omega)] at h8
              simp only [Option.some.injEq] at h8
              rw [h8]
            have e2 : s.drop 12 = 32 :: s.drop 13 := by
              rw [List.drop_eq_getElem_cons (by omega)]
              rw [List.getElem?_eq_getElem (by omega)] at h12
              simp only [Option.some.injEq] at h12
              rw [h12]
            have e3 : s.drop 9 = (s.drop 9).take 3 ++ s.drop 12 := by
              conv => lhs; rw [← List.take_append_drop 3 (s.drop 9), List.drop_drop]
            refine hP ⟨m, (s.drop 9).take 3, s.drop 13, minor_ver ew, by rw [List.length_take, List.length_drop]; omega, num_free (M := 999) (by omega), ?_⟩
            conv => lhs; rw [← List.take_append_drop 8 s, e1, e3, e2, ev]
      
    rw [hC, hR]
def requestL (b : List UInt8) : Sta × Int × Int := if (lineS 8200 b).2.2 ≠ 0 then (Sta.zero, 0, (lineS 8200 b).2.2) else if (reqC (lineS 8200 b).1).2 ≠ 0 then (Sta.zero, 0, (reqC (lineS 8200 b).1).2) else ((reqC (lineS 8200 b).1).1, (lineS 8200 b).2.1, 0)
def responseL (b : List UInt8) : Sta × Int × Int := if (lineS 300 b).2.2 ≠ 0 then (Sta.zero, 0, (lineS 300 b).2.2) else if (respC (lineS 300 b).1).2 ≠ 0 then (Sta.zero, 0, (respC (lineS 300 b).1).2) else ((respC (lineS 300 b).1).1, (lineS 300 b).2.1, 0)

/-! Written. -/
def asks6 (s : Sta) : Bool := token s.method && decide (s.method.length ≤ 32) && vis6 s.target && decide (s.target.length ≤ 8000) && decide (s.status = 0) && s.reason.isEmpty
def answers6 (s : Sta) : Bool := s.method.isEmpty && s.target.isEmpty && decide (100 ≤ s.status) && decide (s.status ≤ 999) && value s.reason && decide (s.reason.length ≤ 200)
def right6 (s : Sta) : Bool := (decide (s.minor = 0) || decide (s.minor = 1)) && (asks6 s || answers6 s)
def printS (s : Sta) : List UInt8 :=
  if s.status = 0 then s.method ++ 32 :: (s.target ++ 32 :: (http1 ++ printN s.minor 10 ++ [13, 10])) else http1 ++ printN s.minor 10 ++ 32 :: (printN s.status 10 ++ 32 :: (s.reason ++ [13, 10]))
end IH

