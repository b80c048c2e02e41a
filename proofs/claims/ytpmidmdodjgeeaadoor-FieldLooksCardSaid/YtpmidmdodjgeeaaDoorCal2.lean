/- Layer 2 in plain Lean: a form, read by its pieces, says its moment. No program in sight; no condition. -/
import Derived.Test.YtpmidmdodjgeeaaDoorCal1
namespace IH

/-- The pieces of a text between the places of an octet. -/
def pieces (sep : UInt8) : List UInt8 → List (List UInt8)
  | [] => [[]]
  | c :: r => if c = sep then [] :: pieces sep r else match pieces sep r with
    | [] => [[c]]
    | p :: ps => (c :: p) :: ps

theorem pieces_ne (sep : UInt8) (l : List UInt8) : pieces sep l ≠ [] := by
  cases l with
  | nil => simp [pieces]
  | cons c r =>
    unfold pieces
    split
    · simp
    · split <;> simp
theorem pieces_one {sep : UInt8} {a : List UInt8} (h : ∀ c ∈ a, c ≠ sep) : pieces sep a = [a] := by
  induction a with
  | nil => rfl
  | cons c a ih =>
    unfold pieces
    rw [if_neg (h c (by simp)), ih fun x hx => h x (by simp [hx])]
theorem pieces_cut {sep : UInt8} {a : List UInt8} (h : ∀ c ∈ a, c ≠ sep) (b : List UInt8) : pieces sep (a ++ sep :: b) = a :: pieces sep b := by
  induction a with
  | nil => simp [pieces]
  | cons c a ih =>
    rw [List.cons_append]
    conv => lhs; unfold pieces
    rw [if_neg (h c (by simp)), ih fun x hx => h x (by simp [hx])]
theorem pieces_count (sep : UInt8) (l : List UInt8) : (pieces sep l).length = l.count sep + 1 := by
  induction l with
  | nil => simp [pieces]
  | cons c r ih =>
    unfold pieces
    split
    · rename_i h; subst h; simp [ih]
    · rename_i h
      rw [List.count_cons_of_ne h]
      split
      · rename_i h0; exact absurd h0 (pieces_ne sep r)
      · rename_i p ps h0; rw [h0] at ih; simpa using ih

def digitsD (l : List UInt8) : Int := if (numR 10 9999 l).2 = 0 then (numR 10 9999 l).1 else -1
theorem accN_le (l : List UInt8) (n m : Int) (h : accN 10 9999 n l = some m) (h0 : 0 ≤ n) (h1 : n ≤ 9999) : 0 ≤ m ∧ m ≤ 9999 := accN_bound 10 (by omega) 9999 n m l h h0 h1
theorem numR_bd (l : List UInt8) (h : (numR 10 9999 l).2 = 0) : 0 ≤ (numR 10 9999 l).1 ∧ (numR 10 9999 l).1 ≤ 9999 := by
  unfold numR at *
  by_cases h1 : l = []
  · rw [if_pos h1] at h; simp at h
  · rw [if_neg h1] at h ⊢
    by_cases h2 : badDig 10 l = true
    · rw [if_pos h2] at h; simp at h
    · rw [if_neg h2, if_neg (by omega)] at h ⊢
      cases hA : accN 10 9999 0 l with
      | none => rw [hA] at h; simp [accR] at h
      | some m => have := accN_le l 0 m hA (by omega) (by omega); simp only [accR]; exact this
theorem digitsD_bd (l : List UInt8) : -1 ≤ digitsD l ∧ digitsD l ≤ 9999 := by
  unfold digitsD
  by_cases h : (numR 10 9999 l).2 = 0
  · rw [if_pos h]; have := numR_bd l h; omega
  · rw [if_neg h]; omega
theorem dig_dg (n : Int) : (dig (dg n) : Int) = n % 10 := by
  unfold dg
  have : 0 ≤ n % 10 ∧ n % 10 < 10 := by omega
  rw [dig_digC _ (by omega)]
  omega
theorem dg_bd (n : Int) : 48 ≤ (dg n).toNat ∧ (dg n).toNat ≤ 57 := by
  unfold dg digC
  have : 0 ≤ n % 10 ∧ n % 10 < 10 := by omega
  rw [if_pos (by omega)]
  rw [UInt8.toNat_ofNat']
  omega
theorem dg_ne (n : Int) (x : UInt8) (h : x.toNat < 48 ∨ 57 < x.toNat) : dg n ≠ x := by
  rintro rfl
  have := dg_bd n
  omega
theorem badDig_dg (n : Int) (l : List UInt8) : badDig 10 (dg n :: l) = badDig 10 l := by
  have := dig_dg n
  have h2 : 0 ≤ n % 10 ∧ n % 10 < 10 := by omega
  unfold badDig
  rw [List.any_cons, decide_eq_false (by omega), Bool.false_or]
theorem accN_dg (n a : Int) (l : List UInt8) (h0 : 0 ≤ a) (h1 : a ≤ 999) : accN 10 9999 a (dg n :: l) = accN 10 9999 (a * 10 + n % 10) l := by
  have h := dig_dg n
  have h2 : 0 ≤ n % 10 ∧ n % 10 < 10 := by omega
  conv => lhs; unfold accN
  rw [h]
  rw [if_neg]
  · rfl
  · intro hc
    rcases hc with hc | hc
    · omega
    · have : (((10 : Nat) : Int)) = 10 := rfl
      rw [this] at hc
      omega
theorem digits1 (n : Int) (h0 : 0 ≤ n) (h1 : n < 10) : digitsD [dg n] = n := by
  have e : numR 10 9999 [dg n] = (n, 0) := by
    unfold numR
    rw [if_neg (by simp), badDig_dg, accN_dg n 0 [] (by omega) (by omega)]
    simp [badDig, accN, accR]; omega
  unfold digitsD; rw [e]; rfl
theorem digits2 (n : Int) (h0 : 0 ≤ n) (h1 : n < 100) : digitsD (d2 n) = n := by
  have e : numR 10 9999 (d2 n) = (n, 0) := by
    unfold numR d2
    rw [if_neg (by simp), badDig_dg, badDig_dg, accN_dg _ 0 _ (by omega) (by omega), accN_dg _ _ _ (by omega) (by omega)]
    simp [badDig, accN, accR]; omega
  unfold digitsD; rw [e]; rfl
theorem digits4 (n : Int) (h0 : 0 ≤ n) (h1 : n < 10000) : digitsD (d4 n) = n := by
  have e : numR 10 9999 (d4 n) = (n, 0) := by
    unfold numR d4
    rw [if_neg (by simp), badDig_dg, badDig_dg, badDig_dg, badDig_dg, accN_dg _ 0 _ (by omega) (by omega), accN_dg _ _ _ (by omega) (by omega), accN_dg _ _ _ (by omega) (by omega), accN_dg _ _ _ (by omega) (by omega)]
    simp [badDig, accN, accR]; omega
  unfold digitsD; rw [e]; rfl

/-- A time of day, read. -/
def timedL (s : List UInt8) : Option (Int × Int × Int) :=
  match pieces 58 s with
  | [a, b, c] => if s.length = 8 ∧ a.length = 2 ∧ b.length = 2 ∧ 0 ≤ digitsD a ∧ digitsD a < 24 ∧ 0 ≤ digitsD b ∧ digitsD b < 60 ∧ 0 ≤ digitsD c ∧ digitsD c < 60 then some (digitsD a, digitsD b, digitsD c) else none
  | _ => none
/-- A month's number, by its name; 0: it is none. -/
def monOf (l : List UInt8) : Int := match (List.range 12).find? (fun k : Nat => decide (monN ((k : Int) + 1) = l)) with
  | some k => (k : Int) + 1
  | none => 0
def century (l : List UInt8) : Int := if l.length = 2 ∧ 0 ≤ digitsD l then (if digitsD l < 70 then digitsD l + 2000 else digitsD l + 1900) else digitsD l
def datedL (d m y : List UInt8) : Option (Int × Int × Int) :=
  if 1 ≤ monOf m ∧ 1970 ≤ century y ∧ 1 ≤ digitsD d ∧ digitsD d ≤ mlen (century y) (monOf m) then some (century y, monOf m, digitsD d) else none
def tryDT (d m y t : List UInt8) : Option ((Int × Int × Int) × (Int × Int × Int)) :=
  match datedL d m y, timedL t with
  | some a, some b => some (a, b)
  | _, _ => none
def partsL (s : List UInt8) : Option (Int × (Int × Int × Int) × (Int × Int × Int)) :=
  match pieces 32 s with
  | [_, b, c, _] => (match pieces 45 b with
    | [x, y, z] => (tryDT x y z c).map fun r => (1, r)
    | _ => none)
  | [_, b, c, d, e] => (tryDT c b e d).map fun r => (2, r)
  | [a, b, c, d, e, f] => if a.getLast? = some 44 ∧ (tryDT b c d e).isSome then (tryDT b c d e).map fun r => (0, r) else if c = [] then (tryDT d b f e).map fun r => (2, r) else none
  | _ => none

/-- y, m, d is the date of a moment that has forms. -/
structure Moment (mt y m d : Int) : Prop where
  h0 : 0 ≤ mt
  h1 : mt ≤ 253402300799
  civ : Civ (mt / 86400) y m d
def formOf (k mt y m d : Int) : List UInt8 := formK k y m d (mt / 86400 % 7) (mt % 86400)

theorem Moment.year {mt y m d : Int} (h : Moment mt y m d) : 1970 ≤ y ∧ y ≤ 9999 := by
  obtain ⟨h0, h1, h2⟩ := h
  have h3 := h2.year
  have e0 : dby 1970 = 0 := by decide
  have e1 : dby 10000 = 2932897 := by decide
  constructor
  · rcases Int.lt_or_le y 1970 with h | h
    · have := dby_mono (y + 1) 1970 (by omega); omega
    · exact h
  · rcases Int.lt_or_le 9999 y with h | h
    · have := dby_mono 10000 y (by omega); omega
    · omega
theorem Moment.uniq {mt y m d y' m' d' : Int} (h : Moment mt y m d) (h' : Moment mt y' m' d') : y = y' ∧ m = m' ∧ d = d' := h.civ.uniq h'.civ

theorem mem_dayN (w : Int) : ∀ c ∈ dayN w, 65 ≤ c.toNat := by
  have h : w = 0 ∨ w = 1 ∨ w = 2 ∨ w = 3 ∨ w = 4 ∨ w = 5 ∨ (w ≠ 0 ∧ w ≠ 1 ∧ w ≠ 2 ∧ w ≠ 3 ∧ w ≠ 4 ∧ w ≠ 5) := by omega
  rcases h with rfl | rfl | rfl | rfl | rfl | rfl | ⟨h0, h1, h2, h3, h4, h5⟩ <;> first | decide | (unfold dayN; rw [if_neg h0, if_neg h1, if_neg h2, if_neg h3, if_neg h4, if_neg h5]; decide)
theorem monN_cases (m : Int) (h1 : 1 ≤ m) (h2 : m ≤ 12) (P : Int → Prop) (p1 : P 1) (p2 : P 2) (p3 : P 3) (p4 : P 4) (p5 : P 5) (p6 : P 6) (p7 : P 7) (p8 : P 8) (p9 : P 9) (p10 : P 10) (p11 : P 11) (p12 : P 12) : P m := by
  have hm : m = 1 ∨ m = 2 ∨ m = 3 ∨ m = 4 ∨ m = 5 ∨ m = 6 ∨ m = 7 ∨ m = 8 ∨ m = 9 ∨ m = 10 ∨ m = 11 ∨ m = 12 := by omega
  rcases hm with rfl | rfl | rfl | rfl | rfl | rfl | rfl | rfl | rfl | rfl | rfl | rfl <;> assumption
theorem mem_monN (m : Int) (h1 : 1 ≤ m) (h2 : m ≤ 12) : ∀ c ∈ monN m, 65 ≤ c.toNat := by
  refine monN_cases m h1 h2 (fun m => ∀ c ∈ monN m, 65 ≤ c.toNat) ?_ ?_ ?_ ?_ ?_ ?_ ?_ ?_ ?_ ?_ ?_ ?_ <;> decide
theorem monOf_monN (m : Int) (h1 : 1 ≤ m) (h2 : m ≤ 12) : monOf (monN m) = m := by
  refine monN_cases m h1 h2 (fun m => monOf (monN m) = m) ?_ ?_ ?_ ?_ ?_ ?_ ?_ ?_ ?_ ?_ ?_ ?_ <;> decide +kernel
theorem monOf_bd (l : List UInt8) : 0 ≤ monOf l ∧ monOf l ≤ 12 := by
  unfold monOf
  cases h : (List.range 12).find? (fun k : Nat => decide (monN ((k : Int) + 1) = l)) with
  | none => simp
  | some k =>
    have := List.mem_range.1 (List.mem_of_find?_eq_some h)
    simp only
    omega
theorem monOf_inv (l : List UInt8) (h1 : 1 ≤ monOf l) : l = monN (monOf l) := by
  unfold monOf at *
  cases h : (List.range 12).find? (fun k : Nat => decide (monN ((k : Int) + 1) = l)) with
  | none => rw [h] at h1; simp at h1
  | some k =>
    have := List.find?_some h
    simp only [decide_eq_true_eq] at this
    simp only
    exact this.symm

theorem mem_d2 (n : Int) : ∀ c ∈ d2 n, 48 ≤ c.toNat ∧ c.toNat ≤ 57 := by
  intro c hc
  simp [d2] at hc
  rcases hc with rfl | rfl <;> exact dg_bd _
theorem mem_d4 (n : Int) : ∀ c ∈ d4 n, 48 ≤ c.toNat ∧ c.toNat ≤ 57 := by
  intro c hc
  simp [d4] at hc
  rcases hc with rfl | rfl | rfl | rfl <;> exact dg_bd _
theorem ne_of_toNat {c x : UInt8} (h : c.toNat ≠ x.toNat) : c ≠ x := fun e => h (by rw [e])
theorem mem_clock (s : Int) : ∀ c ∈ clockL s, 48 ≤ c.toNat ∧ c.toNat ≤ 58 := by
  intro c hc
  simp only [clockL, List.mem_append, List.mem_singleton] at hc
  rcases hc with (((hc | rfl) | hc) | rfl) | hc
  · have := mem_d2 _ c hc; omega
  · decide
  · have := mem_d2 _ c hc; omega
  · decide
  · have := mem_d2 _ c hc; omega

theorem timed_clock (s : Int) (h0 : 0 ≤ s) (h1 : s < 86400) : timedL (clockL s) = some (s / 3600, s / 60 % 60, s % 60) := by
  have e : clockL s = d2 (s / 3600) ++ 58 :: (d2 (s / 60 % 60) ++ 58 :: d2 (s % 60)) := by simp [clockL]
  have hp : pieces 58 (clockL s) = [d2 (s / 3600), d2 (s / 60 % 60), d2 (s % 60)] := by
    have q : ∀ n, ∀ c ∈ d2 n, c ≠ 58 := fun n c hc => ne_of_toNat (by have := mem_d2 n c hc; have e : (58 : UInt8).toNat = 58 := rfl; omega)
    rw [e, pieces_cut (q _), pieces_cut (q _), pieces_one (q _)]
  unfold timedL
  rw [hp]
  simp only
  rw [digits2 (s / 3600) (by omega) (by omega), digits2 (s / 60 % 60) (by omega) (by omega), digits2 (s % 60) (by omega) (by omega)]
  rw [if_pos ⟨by simp [clockL, d2], by simp [d2], by simp [d2], by omega, by omega, by omega, by omega, by omega, by omega⟩]

theorem dated_of (d m y : Int) (dl yl : List UInt8) (hd : digitsD dl = d) (hy : century yl = y) (h1 : 1 ≤ m) (h2 : m ≤ 12) (h3 : 1970 ≤ y) (h4 : 1 ≤ d) (h5 : d ≤ mlen y m) : datedL dl (monN m) yl = some (y, m, d) := by
  unfold datedL
  rw [monOf_monN m h1 h2, hy, hd, if_pos ⟨h1, h3, h4, h5⟩]
theorem century4 (y : Int) (h0 : 0 ≤ y) (h1 : y < 10000) : century (d4 y) = y := by
  unfold century
  rw [digits4 y h0 h1, if_neg (by simp [d4])]
theorem century2 (y : Int) (h0 : 1970 ≤ y) (h1 : y ≤ 2069) : century (d2 (y % 100)) = y := by
  unfold century
  rw [digits2 (y % 100) (by omega) (by omega), if_pos ⟨by simp [d2], by omega⟩]
  split <;> omega
theorem century2_le (y : Int) : century (d2 (y % 100)) ≤ 2069 := by
  unfold century
  rw [digits2 (y % 100) (by omega) (by omega), if_pos ⟨by simp [d2], by omega⟩]
  split <;> omega

theorem pieces_form0 (y m d w s : Int) (h1 : 1 ≤ m) (h2 : m ≤ 12) : pieces 32 (form0 y m d w s) = [(dayN w).take 3 ++ [44], d2 d, monN m, d4 y, clockL s, [71, 77, 84]] := by
  have e32 : (32 : UInt8).toNat = 32 := rfl
  have e : form0 y m d w s = ((dayN w).take 3 ++ [44]) ++ 32 :: (d2 d ++ 32 :: (monN m ++ 32 :: (d4 y ++ 32 :: (clockL s ++ 32 :: [71, 77, 84])))) := by simp [form0, gmt]
  have qd : ∀ c ∈ (dayN w).take 3 ++ [44], c ≠ 32 := by
    intro c hc
    rcases List.mem_append.1 hc with hc | hc
    · have := mem_dayN w c (List.mem_of_mem_take hc)
      exact ne_of_toNat (by omega)
    · simp at hc; subst hc; decide
  have q2 : ∀ n, ∀ c ∈ d2 n, c ≠ 32 := fun n c hc => ne_of_toNat (by have := mem_d2 n c hc; omega)
  have q4 : ∀ n, ∀ c ∈ d4 n, c ≠ 32 := fun n c hc => ne_of_toNat (by have := mem_d4 n c hc; omega)
  have qm : ∀ c ∈ monN m, c ≠ 32 := fun c hc => ne_of_toNat (by have := mem_monN m h1 h2 c hc; omega)
  have qc : ∀ c ∈ clockL s, c ≠ 32 := fun c hc => ne_of_toNat (by have := mem_clock s c hc; omega)
  have qg : ∀ c ∈ ([71, 77, 84] : List UInt8), c ≠ 32 := by decide
  rw [e, pieces_cut qd, pieces_cut (q2 _), pieces_cut qm, pieces_cut (q4 _), pieces_cut qc, pieces_one qg]
theorem pieces_form1 (y m d w s : Int) (h1 : 1 ≤ m) (h2 : m ≤ 12) : pieces 32 (form1 y m d w s) = [dayN w ++ [44], d2 d ++ [45] ++ monN m ++ [45] ++ d2 (y % 100), clockL s, [71, 77, 84]] ∧ pieces 45 (d2 d ++ [45] ++ monN m ++ [45] ++ d2 (y % 100)) = [d2 d, monN m, d2 (y % 100)] := by
  have e32 : (32 : UInt8).toNat = 32 := rfl
  have e45 : (45 : UInt8).toNat = 45 := rfl
  have e : form1 y m d w s = (dayN w ++ [44]) ++ 32 :: ((d2 d ++ [45] ++ monN m ++ [45] ++ d2 (y % 100)) ++ 32 :: (clockL s ++ 32 :: [71, 77, 84])) := by simp [form1, gmt]
  have e2 : d2 d ++ [45] ++ monN m ++ [45] ++ d2 (y % 100) = d2 d ++ 45 :: (monN m ++ 45 :: d2 (y % 100)) := by simp
  have qd : ∀ c ∈ dayN w ++ [44], c ≠ 32 := by
    intro c hc
    rcases List.mem_append.1 hc with hc | hc
    · have := mem_dayN w c hc
      exact ne_of_toNat (by omega)
    · simp at hc; subst hc; decide
  have q2 : ∀ n, ∀ c ∈ d2 n, c ≠ 32 ∧ c ≠ 45 := fun n c hc => ⟨ne_of_toNat (by have := mem_d2 n c hc; omega), ne_of_toNat (by have := mem_d2 n c hc; omega)⟩
  have qm : ∀ c ∈ monN m, c ≠ 32 ∧ c ≠ 45 := fun c hc => ⟨ne_of_toNat (by have := mem_monN m h1 h2 c hc; omega), ne_of_toNat (by have := mem_monN m h1 h2 c hc; omega)⟩
  have qc : ∀ c ∈ clockL s, c ≠ 32 := fun c hc => ne_of_toNat (by have := mem_clock s c hc; omega)
  have qg : ∀ c ∈ ([71, 77, 84] : List UInt8), c ≠ 32 := by decide
  have qb : ∀ c ∈ d2 d ++ [45] ++ monN m ++ [45] ++ d2 (y % 100), c ≠ 32 := by
    intro c hc
    simp only [List.mem_append, List.mem_singleton] at hc
    rcases hc with (((hc | rfl) | hc) | rfl) | hc
    · exact (q2 _ c hc).1
    · decide
    · exact (qm c hc).1
    · decide
    · exact (q2 _ c hc).1
  constructor
  · rw [e, pieces_cut qd, pieces_cut qb, pieces_cut qc, pieces_one qg]
  · rw [e2, pieces_cut (fun c hc => (q2 _ c hc).2), pieces_cut (fun c hc => (qm c hc).2), pieces_one (fun c hc => (q2 _ c hc).2)]
theorem pieces_form2 (y m d w s : Int) (h1 : 1 ≤ m) (h2 : m ≤ 12) : pieces 32 (form2 y m d w s) = if d < 10 then [(dayN w).take 3, monN m, [], [dg d], clockL s, d4 y] else [(dayN w).take 3, monN m, d2 d, clockL s, d4 y] := by
  have e32 : (32 : UInt8).toNat = 32 := rfl
  have qd : ∀ c ∈ (dayN w).take 3, c ≠ 32 := by
    intro c hc
    have := mem_dayN w c (List.mem_of_mem_take hc)
    exact ne_of_toNat (by omega)
  have q1 : ∀ c ∈ [dg d], c ≠ 32 := by
    intro c hc
    simp at hc; subst hc
    exact ne_of_toNat (by have := dg_bd d; omega)
  have q0 : ∀ c ∈ ([] : List UInt8), c ≠ 32 := by simp
  have q2 : ∀ n, ∀ c ∈ d2 n, c ≠ 32 := fun n c hc => ne_of_toNat (by have := mem_d2 n c hc; omega)
  have q4 : ∀ n, ∀ c ∈ d4 n, c ≠ 32 := fun n c hc => ne_of_toNat (by have := mem_d4 n c hc; omega)
  have qm : ∀ c ∈ monN m, c ≠ 32 := fun c hc => ne_of_toNat (by have := mem_monN m h1 h2 c hc; omega)
  have qc : ∀ c ∈ clockL s, c ≠ 32 := fun c hc => ne_of_toNat (by have := mem_clock s c hc; omega)
  by_cases hd : d < 10
  · have e : form2 y m d w s = (dayN w).take 3 ++ 32 :: (monN m ++ 32 :: ([] ++ 32 :: ([dg d] ++ 32 :: (clockL s ++ 32 :: d4 y)))) := by simp [form2, short2, hd]
    rw [e, pieces_cut qd, pieces_cut qm, pieces_cut q0, pieces_cut q1, pieces_cut qc, pieces_one (q4 _), if_pos hd]
  · have e : form2 y m d w s = (dayN w).take 3 ++ 32 :: (monN m ++ 32 :: (d2 d ++ 32 :: (clockL s ++ 32 :: d4 y))) := by simp [form2, short2, hd]
    rw [e, pieces_cut qd, pieces_cut qm, pieces_cut (q2 _), pieces_cut qc, pieces_one (q4 _), if_neg hd]

theorem tryDT_of {d m y t : List UInt8} {a b : Int × Int × Int} (h1 : datedL d m y = some a) (h2 : timedL t = some b) : tryDT d m y t = some (a, b) := by unfold tryDT; rw [h1, h2]

/-- A form is read as what it was made of. -/
theorem parts_form {k mt y m d : Int} (h : Moment mt y m d) (hk : k = 0 ∨ (k = 1 ∧ y ≤ 2069) ∨ k = 2) : partsL (formOf k mt y m d) = some (k, (y, m, d), (mt % 86400 / 3600, mt % 86400 / 60 % 60, mt % 86400 % 60)) := by
  obtain ⟨hy0, hy1⟩ := h.year
  obtain ⟨h0, h1, hm1, hm2, hd1, hd2, hn⟩ := h
  have hml := mlen_bd y m
  have ht := timed_clock (mt % 86400) (by omega) (by omega)
  rcases hk with rfl | ⟨rfl, hy⟩ | rfl
  · have hD := dated_of d m y (d2 d) (d4 y) (digits2 d (by omega) (by omega)) (century4 y (by omega) (by omega)) hm1 hm2 hy0 hd1 hd2
    have e : formOf 0 mt y m d = form0 y m d (mt / 86400 % 7) (mt % 86400) := rfl
    unfold partsL
    rw [e, pieces_form0 _ _ _ _ _ hm1 hm2]
    simp only
    rw [tryDT_of hD ht, if_pos ⟨by simp, rfl⟩]
    rfl
  · have hD := dated_of d m y (d2 d) (d2 (y % 100)) (digits2 d (by omega) (by omega)) (century2 y hy0 hy) hm1 hm2 hy0 hd1 hd2
    have e : formOf 1 mt y m d = form1 y m d (mt / 86400 % 7) (mt % 86400) := rfl
    obtain ⟨p1, p2⟩ := pieces_form1 y m d (mt / 86400 % 7) (mt % 86400) hm1 hm2
    unfold partsL
    rw [e, p1]
    simp only
    rw [p2]
    simp only
    rw [tryDT_of hD ht]
    rfl
  · have e : formOf 2 mt y m d = form2 y m d (mt / 86400 % 7) (mt % 86400) := rfl
    have p := pieces_form2 y m d (mt / 86400 % 7) (mt % 86400) hm1 hm2
    by_cases hd : d < 10
    · have hD := dated_of d m y [dg d] (d4 y) (digits1 d (by omega) (by omega)) (century4 y (by omega) (by omega)) hm1 hm2 hy0 hd1 hd2
      rw [if_pos hd] at p
      unfold partsL
      rw [e, p]
      simp only
      rw [if_neg, if_pos trivial, tryDT_of hD ht]
      · rfl
      · intro hc
        have := mem_dayN (mt / 86400 % 7) 44 (List.mem_of_mem_take (List.mem_of_getLast? hc.1))
        exact absurd this (by decide)
    · have hD := dated_of d m y (d2 d) (d4 y) (digits2 d (by omega) (by omega)) (century4 y (by omega) (by omega)) hm1 hm2 hy0 hd1 hd2
      rw [if_neg hd] at p
      unfold partsL
      rw [e, p]
      simp only
      rw [tryDT_of hD ht]
      rfl

def joinedAt (c : (Int × Int × Int) × (Int × Int × Int)) : Int := (dby c.1.1 + cum c.1.1 c.1.2.1 + c.1.2.2 - 1) * 86400 + c.2.1 * 3600 + c.2.2.1 * 60 + c.2.2.2
theorem tryDT_inv {d m y t : List UInt8} {c : (Int × Int × Int) × (Int × Int × Int)} (h : tryDT d m y t = some c) : Moment (joinedAt c) c.1.1 c.1.2.1 c.1.2.2 ∧ joinedAt c % 86400 = c.2.1 * 3600 + c.2.2.1 * 60 + c.2.2.2 ∧ c.1.1 = century y ∧ 0 ≤ c.2.1 ∧ c.2.1 ≤ 23 ∧ 0 ≤ c.2.2.1 ∧ c.2.2.1 ≤ 59 ∧ 0 ≤ c.2.2.2 ∧ c.2.2.2 ≤ 59 := by
  unfold tryDT at h
  split at h
  · rename_i a b ha hb
    simp only [Option.some.injEq] at h
    subst h
    unfold datedL at ha
    split at ha
    · rename_i hc
      obtain ⟨hm, hy, hd1, hd2⟩ := hc
      simp only [Option.some.injEq] at ha
      subst ha
      have hmb := monOf_bd m
      have hyb : century y ≤ 9999 := by
        have := digitsD_bd y
        unfold century
        split
        · rename_i hc
          split
          · omega
          · rename_i h70
            have : digitsD y < 100 ∨ 100 ≤ digitsD y := by omega
            rcases this with h | h
            · omega
            · exfalso
              obtain ⟨hl, _⟩ := hc
              match y, hl with
              | [p, q], _ =>
                have hp : dig p < 10 ∨ 10 ≤ dig p := by omega
                have hq : dig q < 10 ∨ 10 ≤ dig q := by omega
                unfold digitsD numR at h
                rcases hp with hp | hp
                · rcases hq with hq | hq
                  · have hb : badDig 10 [p, q] = false := by simp [badDig]; omega
                    simp only [hb] at h
                    simp [accN] at h
                    have e0 : ¬ ((9999 : Int) < dig p ∨ (9999 - (dig p : Int)) / 10 < 0) := by omega
                    have e1 : ¬ ((9999 : Int) < dig q ∨ (9999 - (dig q : Int)) / 10 < (dig p : Int)) := by omega
                    simp [e0, e1, accR] at h
                    omega
                  · have hb : badDig 10 [p, q] = true := by simp [badDig]; omega
                    simp [hb] at h
                · have hb : badDig 10 [p, q] = true := by simp [badDig]; omega
                  simp [hb] at h
        · omega
      unfold timedL at hb
      split at hb
      · split at hb
        · rename_i hc
          obtain ⟨_, _, _, t0, t1, t2, t3, t4, t5⟩ := hc
          simp only [Option.some.injEq] at hb
          subst hb
          simp only [joinedAt]
          have c1 := cum_bd (century y) (monOf m)
          have c2 := dby_mono 1970 (century y) hy
          have c3 : dby 1970 = 0 := dby_1970
          have c4 := dby_mono (century y + 1) 10000 (by omega)
          have c5 : dby 10000 = 2932897 := by decide
          have c6 := dby_succ (century y)
          have c7 := cum_mono (century y) (monOf m + 1) 13 (by omega) (by omega) (by omega)
          have c8 := cum_succ (century y) (monOf m) (by omega) (by omega)
          have c9 := cum_13 (century y)
          refine ⟨⟨by omega, by omega, by omega, by omega, hd1, hd2, by omega⟩, by omega, trivial, by omega, by omega, by omega, by omega, by omega, by omega⟩
        · cases hb
      · cases hb
    · cases ha
  · cases h
end IH
