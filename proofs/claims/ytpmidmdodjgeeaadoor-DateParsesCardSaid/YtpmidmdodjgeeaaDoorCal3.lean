/- Layer 2 in plain Lean: what a text says, by the code's way and by the document's: both the moment whose form it is. No program in sight; no condition. -/
import Derived.Test.YtpmidmdodjgeeaaDoorCal2
namespace IH

/-- A text is a form of a moment. -/
def IsForm (s : List UInt8) (mt : Int) : Prop := ∃ k y m d : Int, Moment mt y m d ∧ (k = 0 ∨ (k = 1 ∧ y ≤ 2069) ∨ k = 2) ∧ s = formOf k mt y m d
/-- What says of each text its moment, or that it has none. -/
def Says (F : List UInt8 → Int × Int) : Prop := ∀ s, (∀ mt, IsForm s mt → F s = (mt, 0)) ∧ (F s = (0, 10) ∨ ∃ mt, IsForm s mt ∧ F s = (mt, 0))
theorem Says.eq {F G : List UInt8 → Int × Int} (hF : Says F) (hG : Says G) (s : List UInt8) : F s = G s := by
  rcases (hF s).2 with h | ⟨mt, h1, h2⟩
  · rcases (hG s).2 with h' | ⟨mt, h1, h2⟩
    · rw [h, h']
    · rw [(hF s).1 mt h1, h2]
  · rw [h2, (hG s).1 mt h1]

/-- The code's way. -/
def parseL (s : List UInt8) : Int × Int :=
  match partsL s with
  | none => (0, 10)
  | some (k, c) => if formOf k (joinedAt c) c.1.1 c.1.2.1 c.1.2.2 = s then (joinedAt c, 0) else (0, 10)

theorem partsL_inv {s : List UInt8} {k : Int} {c : (Int × Int × Int) × (Int × Int × Int)} (h : partsL s = some (k, c)) : (k = 0 ∨ k = 1 ∨ k = 2) ∧ ∃ d m y t, tryDT d m y t = some c := by
  unfold partsL at h
  split at h
  · split at h
    · obtain ⟨r, h1, h2⟩ := Option.map_eq_some_iff.1 h
      simp only [Prod.mk.injEq] at h2
      obtain ⟨rfl, rfl⟩ := h2
      exact ⟨.inr (.inl rfl), _, _, _, _, h1⟩
    · cases h
  · obtain ⟨r, h1, h2⟩ := Option.map_eq_some_iff.1 h
    simp only [Prod.mk.injEq] at h2
    obtain ⟨rfl, rfl⟩ := h2
    exact ⟨.inr (.inr rfl), _, _, _, _, h1⟩
  · split at h
    · obtain ⟨r, h1, h2⟩ := Option.map_eq_some_iff.1 h
      simp only [Prod.mk.injEq] at h2
      obtain ⟨rfl, rfl⟩ := h2
      exact ⟨.inl rfl, _, _, _, _, h1⟩
    · split at h
      · obtain ⟨r, h1, h2⟩ := Option.map_eq_some_iff.1 h
        simp only [Prod.mk.injEq] at h2
        obtain ⟨rfl, rfl⟩ := h2
        exact ⟨.inr (.inr rfl), _, _, _, _, h1⟩
      · cases h
  · cases h

theorem joined_of (mt y m d : Int) (h : Moment mt y m d) : joinedAt ((y, m, d), (mt % 86400 / 3600, mt % 86400 / 60 % 60, mt % 86400 % 60)) = mt := by
  have := h.civ.hn
  have := h.h0
  simp only [joinedAt]
  omega

theorem parseL_says : Says parseL := by
  intro s
  constructor
  · rintro mt ⟨k, y, m, d, hM, hk, rfl⟩
    unfold parseL
    rw [parts_form hM hk]
    simp only
    rw [joined_of mt y m d hM, if_pos rfl]
  · cases hp : partsL s with
    | none => left; unfold parseL; rw [hp]
    | some kc =>
      obtain ⟨k, c⟩ := kc
      by_cases hs : formOf k (joinedAt c) c.1.1 c.1.2.1 c.1.2.2 = s
      · right
        obtain ⟨hk, a, b, y, t, ht⟩ := partsL_inv hp
        obtain ⟨hM, _⟩ := tryDT_inv ht
        refine ⟨joinedAt c, ⟨k, c.1.1, c.1.2.1, c.1.2.2, hM, ?_, hs.symm⟩, ?_⟩
        · rcases hk with rfl | rfl | rfl
          · exact .inl rfl
          · right; left
            refine ⟨rfl, ?_⟩
            obtain ⟨p1, p2⟩ := pieces_form1 c.1.1 c.1.2.1 c.1.2.2 (joinedAt c / 86400 % 7) (joinedAt c % 86400) hM.civ.hm1 hM.civ.hm2
            have e : formOf 1 (joinedAt c) c.1.1 c.1.2.1 c.1.2.2 = form1 c.1.1 c.1.2.1 c.1.2.2 (joinedAt c / 86400 % 7) (joinedAt c % 86400) := rfl
            rw [← hs, e] at hp
            unfold partsL at hp
            rw [p1] at hp
            simp only at hp
            rw [p2] at hp
            simp only at hp
            obtain ⟨r, h1, h2⟩ := Option.map_eq_some_iff.1 hp
            simp only [Prod.mk.injEq] at h2
            obtain ⟨_, rfl⟩ := h2
            have hy := (tryDT_inv h1).2.2.1
            rw [hy]
            exact century2_le r.1.1
          · exact .inr (.inr rfl)
        · unfold parseL
          rw [hp]
          simp only
          rw [if_pos hs]
      · left
        unfold parseL
        rw [hp]
        simp only
        rw [if_neg hs]

/-! The document's way: sign by sign. -/
def isDig (c : UInt8) : Bool := 48 ≤ c.toNat && c.toNat ≤ 57
def decV (l : List UInt8) : Int := l.foldl (fun n c => n * 10 + (c.toNat : Int) - 48) 0
def refNum (s : List UInt8) (a b : Nat) : Int := if ((s.drop a).take (b - a)).length = b - a ∧ ((s.drop a).take (b - a)).all isDig = true then decV ((s.drop a).take (b - a)) else -1
def refFind (s : List UInt8) (a : Nat) : Int := monOf ((s.drop a).take 3) - 1
def refMoment (y m d h mi se : Int) : Int :=
  if y < 1970 ∨ m < 0 ∨ d < 1 ∨ mlen y (m + 1) < d ∨ h < 0 ∨ 23 < h ∨ mi < 0 ∨ 59 < mi ∨ se < 0 ∨ 59 < se then -1
  else joinedAt ((y, m + 1, d), (h, mi, se))
noncomputable def formC (k mt : Int) : List UInt8 := formOf k mt (civOf (mt / 86400)).1 (civOf (mt / 86400)).2.1 (civOf (mt / 86400)).2.2
theorem formC_of {k mt y m d : Int} (h : Moment mt y m d) : formC k mt = formOf k mt y m d := by unfold formC; rw [h.civ.civOf]
noncomputable def ref0 (s : List UInt8) : Option Int :=
  if s.length = 29 ∧ 0 ≤ refMoment (refNum s 12 16) (refFind s 8) (refNum s 5 7) (refNum s 17 19) (refNum s 20 22) (refNum s 23 25) ∧ formC 0 (refMoment (refNum s 12 16) (refFind s 8) (refNum s 5 7) (refNum s 17 19) (refNum s 20 22) (refNum s 23 25)) = s
  then some (refMoment (refNum s 12 16) (refFind s 8) (refNum s 5 7) (refNum s 17 19) (refNum s 20 22) (refNum s 23 25)) else none
def from2 (s : List UInt8) : Nat := if s[8]? = some 32 then 9 else 8
noncomputable def ref2 (s : List UInt8) : Option Int :=
  if s.length = 24 ∧ 0 ≤ refMoment (refNum s 20 24) (refFind s 4) (refNum s (from2 s) 10) (refNum s 11 13) (refNum s 14 16) (refNum s 17 19) ∧ formC 2 (refMoment (refNum s 20 24) (refFind s 4) (refNum s (from2 s) 10) (refNum s 11 13) (refNum s 14 16) (refNum s 17 19)) = s
  then some (refMoment (refNum s 20 24) (refFind s 4) (refNum s (from2 s) 10) (refNum s 11 13) (refNum s 14 16) (refNum s 17 19)) else none
def year1 (n : Int) : Int := if n < 70 then n + 100 + 1900 else n + 1900
def mom1 (s : List UInt8) (k : Nat) : Int := refMoment (year1 (refNum s (k + 9) (k + 11))) (refFind s (k + 5)) (refNum s (k + 2) (k + 4)) (refNum s (k + 12) (k + 14)) (refNum s (k + 15) (k + 17)) (refNum s (k + 18) (k + 20))
noncomputable def ref1 (s : List UInt8) : List Int → Int × Int
  | [] => (0, 10)
  | w :: ws =>
    if s.length = (dayN w).length + 24 ∧ s.take (dayN w).length = dayN w then
      (if refNum s ((dayN w).length + 9) ((dayN w).length + 11) < 0 then (0, 10)
       else if 0 ≤ mom1 s (dayN w).length ∧ formC 1 (mom1 s (dayN w).length) = s then (mom1 s (dayN w).length, 0) else ref1 s ws)
    else ref1 s ws
/-- From Sunday on. -/
def week7 : List Int := [3, 4, 5, 6, 0, 1, 2]
noncomputable def refParseL (s : List UInt8) : Int × Int :=
  match ref0 s with
  | some n => (n, 0)
  | none => match ref2 s with
    | some n => (n, 0)
    | none => ref1 s week7

theorem decV_bd (l : List UInt8) (h : l.all isDig = true) : 0 ≤ decV l ∧ decV l < 10 ^ l.length := by
  have key : ∀ (l : List UInt8) (n : Int) (k : Nat), l.all isDig = true → 0 ≤ n → n < 10 ^ k → 0 ≤ l.foldl (fun n c => n * 10 + (c.toNat : Int) - 48) n ∧ l.foldl (fun n c => n * 10 + (c.toNat : Int) - 48) n < 10 ^ (k + l.length) := by
    intro l
    induction l with
    | nil => intro n k _ h0 h1; exact ⟨h0, h1⟩
    | cons c l ih =>
      intro n k hl h0 h1
      simp only [List.all_cons, Bool.and_eq_true] at hl
      have hc := hl.1
      simp only [isDig, Bool.and_eq_true, decide_eq_true_eq] at hc
      have := ih (n * 10 + (c.toNat : Int) - 48) (k + 1) hl.2 (by omega) (by rw [Int.pow_succ]; omega)
      rw [List.foldl_cons, List.length_cons, show k + (l.length + 1) = k + 1 + l.length by omega]
      exact this
  have := key l 0 0 h (by omega) (by simp)
  simpa [decV] using this
theorem refNum_bd (s : List UInt8) (a b : Nat) (h : 0 ≤ refNum s a b) : refNum s a b < 10 ^ (b - a) := by
  unfold refNum at *
  by_cases hc : ((s.drop a).take (b - a)).length = b - a ∧ ((s.drop a).take (b - a)).all isDig = true
  · rw [if_pos hc] at h ⊢
    have := (decV_bd _ hc.2).2
    rw [hc.1] at this
    exact this
  · rw [if_neg hc] at h; omega
theorem isDig_dg (n : Int) : isDig (dg n) = true := by
  have := dg_bd n
  simp [isDig]; omega
theorem dg_val (n : Int) : ((dg n).toNat : Int) - 48 = n % 10 := by
  unfold dg digC
  have : 0 ≤ n % 10 ∧ n % 10 < 10 := by omega
  rw [if_pos (by omega), UInt8.toNat_ofNat']
  omega
theorem refNum_d2 (s : List UInt8) (a : Nat) (n : Int) (h : (s.drop a).take 2 = d2 n) (h0 : 0 ≤ n) (h1 : n < 100) (b : Nat) (hb : b = a + 2) : refNum s a b = n := by
  subst hb
  unfold refNum
  rw [show a + 2 - a = 2 by omega, h, if_pos ⟨by simp [d2], by simp [d2, isDig_dg]⟩]
  have e1 := dg_val (n / 10)
  have e2 := dg_val n
  simp only [decV, d2, List.foldl_cons, List.foldl_nil]
  omega
theorem refNum_d1 (s : List UInt8) (a : Nat) (n : Int) (h : (s.drop a).take 1 = [dg n]) (h0 : 0 ≤ n) (h1 : n < 10) (b : Nat) (hb : b = a + 1) : refNum s a b = n := by
  subst hb
  unfold refNum
  rw [show a + 1 - a = 1 by omega, h, if_pos ⟨by simp, by simp [isDig_dg]⟩]
  have e2 := dg_val n
  simp only [decV, List.foldl_cons, List.foldl_nil]
  omega
theorem refNum_d4 (s : List UInt8) (a : Nat) (n : Int) (h : (s.drop a).take 4 = d4 n) (h0 : 0 ≤ n) (h1 : n < 10000) (b : Nat) (hb : b = a + 4) : refNum s a b = n := by
  subst hb
  unfold refNum
  rw [show a + 4 - a = 4 by omega, h, if_pos ⟨by simp [d4], by simp [d4, isDig_dg]⟩]
  have e1 := dg_val (n / 10)
  have e2 := dg_val n
  have e3 := dg_val (n / 100)
  have e4 := dg_val (n / 1000)
  simp only [decV, d4, List.foldl_cons, List.foldl_nil]
  omega
theorem refFind_mon (s : List UInt8) (a : Nat) (m : Int) (h : (s.drop a).take 3 = monN m) (h1 : 1 ≤ m) (h2 : m ≤ 12) : refFind s a = m - 1 := by
  unfold refFind
  rw [h, monOf_monN m h1 h2]
theorem refMoment_of {mt y m d : Int} (h : Moment mt y m d) : refMoment y (m - 1) d (mt % 86400 / 3600) (mt % 86400 / 60 % 60) (mt % 86400 % 60) = mt := by
  have hy := h.year
  have h0 := h.h0
  obtain ⟨hm1, hm2, hd1, hd2, hn⟩ := h.civ
  unfold refMoment
  rw [show m - 1 + 1 = m by omega, if_neg (by omega)]
  exact joined_of mt y m d h
theorem refMoment_inv {y m d h mi se : Int} (h0 : 0 ≤ refMoment y m d h mi se) (hy : y ≤ 9999) (hm : m ≤ 11) : Moment (refMoment y m d h mi se) y (m + 1) d := by
  unfold refMoment at *
  by_cases hc : y < 1970 ∨ m < 0 ∨ d < 1 ∨ mlen y (m + 1) < d ∨ h < 0 ∨ 23 < h ∨ mi < 0 ∨ 59 < mi ∨ se < 0 ∨ 59 < se
  · rw [if_pos hc] at h0; omega
  · rw [if_neg hc] at h0 ⊢
    simp only [joinedAt] at *
    have c1 := cum_bd y (m + 1)
    have c2 := dby_mono 1970 y (by omega)
    have c3 : dby 1970 = 0 := dby_1970
    have c4 := dby_mono (y + 1) 10000 (by omega)
    have c5 : dby 10000 = 2932897 := by decide
    have c6 := dby_succ y
    have c7 := cum_mono y (m + 1 + 1) 13 (by omega) (by omega) (by omega)
    have c8 := cum_succ y (m + 1) (by omega) (by omega)
    have c9 := cum_13 y
    exact ⟨by omega, by omega, by omega, by omega, by omega, by omega, by omega⟩
theorem refFind_bd (s : List UInt8) (a : Nat) : refFind s a ≤ 11 := by have := monOf_bd ((s.drop a).take 3); unfold refFind; omega
theorem dayN_three (w : Int) : ∃ a b c r, dayN w = a :: b :: c :: r := by
  have h : w = 0 ∨ w = 1 ∨ w = 2 ∨ w = 3 ∨ w = 4 ∨ w = 5 ∨ (w ≠ 0 ∧ w ≠ 1 ∧ w ≠ 2 ∧ w ≠ 3 ∧ w ≠ 4 ∧ w ≠ 5) := by omega
  rcases h with rfl | rfl | rfl | rfl | rfl | rfl | ⟨h0, h1, h2, h3, h4, h5⟩
  all_goals first
    | exact ⟨_, _, _, _, rfl⟩
    | (unfold dayN; rw [if_neg h0, if_neg h1, if_neg h2, if_neg h3, if_neg h4, if_neg h5]; exact ⟨_, _, _, _, rfl⟩)
theorem monN_three (m : Int) (h1 : 1 ≤ m) (h2 : m ≤ 12) : ∃ a b c, monN m = [a, b, c] := by
  refine monN_cases m h1 h2 (fun m => ∃ a b c, monN m = [a, b, c]) ?_ ?_ ?_ ?_ ?_ ?_ ?_ ?_ ?_ ?_ ?_ ?_ <;> exact ⟨_, _, _, rfl⟩

theorem ref0_form {mt y m d : Int} (h : Moment mt y m d) : ref0 (formOf 0 mt y m d) = some mt := by
  obtain ⟨a, b, c, r, hD⟩ := dayN_three (mt / 86400 % 7)
  obtain ⟨p, q, t, hM⟩ := monN_three m h.civ.hm1 h.civ.hm2
  have hy := h.year
  have hd1 := h.civ.hd1
  have hd2 := h.civ.hd2
  have hml := mlen_bd y m
  have hm0 := h.h0
  have e : formOf 0 mt y m d = [a, b, c, 44, 32, dg (d / 10), dg d, 32, p, q, t, 32, dg (y / 1000), dg (y / 100), dg (y / 10), dg y, 32, dg (mt % 86400 / 3600 / 10), dg (mt % 86400 / 3600), 58, dg (mt % 86400 / 60 % 60 / 10), dg (mt % 86400 / 60 % 60), 58, dg (mt % 86400 % 60 / 10), dg (mt % 86400 % 60), 32, 71, 77, 84] := by
    show form0 y m d (mt / 86400 % 7) (mt % 86400) = _
    simp [form0, hD, hM, d2, d4, clockL, gmt]
  have n1 : refNum (formOf 0 mt y m d) 12 16 = y := refNum_d4 _ 12 y (by rw [e]; rfl) (by omega) (by omega) _ rfl
  have n2 : refFind (formOf 0 mt y m d) 8 = m - 1 := refFind_mon _ 8 m (by rw [e, hM]; rfl) h.civ.hm1 h.civ.hm2
  have n3 : refNum (formOf 0 mt y m d) 5 7 = d := refNum_d2 _ 5 d (by rw [e]; rfl) (by omega) (by omega) _ rfl
  have n4 : refNum (formOf 0 mt y m d) 17 19 = mt % 86400 / 3600 := refNum_d2 _ 17 _ (by rw [e]; rfl) (by omega) (by omega) _ rfl
  have n5 : refNum (formOf 0 mt y m d) 20 22 = mt % 86400 / 60 % 60 := refNum_d2 _ 20 _ (by rw [e]; rfl) (by omega) (by omega) _ rfl
  have n6 : refNum (formOf 0 mt y m d) 23 25 = mt % 86400 % 60 := refNum_d2 _ 23 _ (by rw [e]; rfl) (by omega) (by omega) _ rfl
  unfold ref0
  rw [n1, n2, n3, n4, n5, n6, refMoment_of h, formC_of h, if_pos ⟨by rw [e]; rfl, hm0, rfl⟩]
theorem ref2_form {mt y m d : Int} (h : Moment mt y m d) : ref0 (formOf 2 mt y m d) = none ∧ ref2 (formOf 2 mt y m d) = some mt := by
  obtain ⟨a, b, c, r, hD⟩ := dayN_three (mt / 86400 % 7)
  obtain ⟨p, q, t, hM⟩ := monN_three m h.civ.hm1 h.civ.hm2
  have hy := h.year
  have hd1 := h.civ.hd1
  have hd2 := h.civ.hd2
  have hml := mlen_bd y m
  have hm0 := h.h0
  obtain ⟨x, hx⟩ : ∃ x, short2 d = [x, dg d] ∧ ((d < 10 ∧ x = 32) ∨ (¬ d < 10 ∧ x = dg (d / 10))) := by
    unfold short2 d2
    by_cases h10 : d < 10
    · rw [if_pos h10]; exact ⟨_, rfl, .inl ⟨h10, rfl⟩⟩
    · rw [if_neg h10]; exact ⟨_, rfl, .inr ⟨h10, rfl⟩⟩
  have e : formOf 2 mt y m d = [a, b, c, 32, p, q, t, 32, x, dg d, 32, dg (mt % 86400 / 3600 / 10), dg (mt % 86400 / 3600), 58, dg (mt % 86400 / 60 % 60 / 10), dg (mt % 86400 / 60 % 60), 58, dg (mt % 86400 % 60 / 10), dg (mt % 86400 % 60), 32, dg (y / 1000), dg (y / 100), dg (y / 10), dg y] := by
    show form2 y m d (mt / 86400 % 7) (mt % 86400) = _
    simp [form2, hD, hM, hx.1, d2, d4, clockL]
  have n1 : refNum (formOf 2 mt y m d) 20 24 = y := refNum_d4 _ 20 y (by rw [e]; rfl) (by omega) (by omega) _ rfl
  have n2 : refFind (formOf 2 mt y m d) 4 = m - 1 := refFind_mon _ 4 m (by rw [e, hM]; rfl) h.civ.hm1 h.civ.hm2
  have n3 : refNum (formOf 2 mt y m d) (from2 (formOf 2 mt y m d)) 10 = d := by
    rcases hx.2 with ⟨h10, rfl⟩ | ⟨h10, rfl⟩
    · have ef : from2 (formOf 2 mt y m d) = 9 := by rw [e]; rfl
      rw [ef]
      exact refNum_d1 _ 9 d (by rw [e]; rfl) (by omega) h10 _ rfl
    · have ef : from2 (formOf 2 mt y m d) = 8 := by
        unfold from2
        rw [e, if_neg]
        simp only [List.getElem?_cons_succ, List.getElem?_cons_zero, Option.some.injEq]
        exact dg_ne _ _ (by decide)
      rw [ef]
      exact refNum_d2 _ 8 d (by rw [e]; rfl) (by omega) (by omega) _ rfl
  have n4 : refNum (formOf 2 mt y m d) 11 13 = mt % 86400 / 3600 := refNum_d2 _ 11 _ (by rw [e]; rfl) (by omega) (by omega) _ rfl
  have n5 : refNum (formOf 2 mt y m d) 14 16 = mt % 86400 / 60 % 60 := refNum_d2 _ 14 _ (by rw [e]; rfl) (by omega) (by omega) _ rfl
  have n6 : refNum (formOf 2 mt y m d) 17 19 = mt % 86400 % 60 := refNum_d2 _ 17 _ (by rw [e]; rfl) (by omega) (by omega) _ rfl
  have hl : (formOf 2 mt y m d).length = 24 := by rw [e]; rfl
  constructor
  · unfold ref0
    rw [if_neg (by rw [hl]; omega)]
  · unfold ref2
    rw [n1, n2, n3, n4, n5, n6, refMoment_of h, formC_of h, if_pos ⟨hl, hm0, rfl⟩]

theorem form1_at {mt y m d : Int} (h : Moment mt y m d) (hy2 : y ≤ 2069) (K : Nat) (hK : (dayN (mt / 86400 % 7)).length = K) :
    (formOf 1 mt y m d).length = K + 24 ∧ refNum (formOf 1 mt y m d) (K + 9) (K + 11) = y % 100 ∧ mom1 (formOf 1 mt y m d) K = mt ∧ (formOf 1 mt y m d).take K = dayN (mt / 86400 % 7) := by
  obtain ⟨p, q, t, hM⟩ := monN_three m h.civ.hm1 h.civ.hm2
  have hy := h.year
  have hd1 := h.civ.hd1
  have hd2 := h.civ.hd2
  have hml := mlen_bd y m
  have hm0 := h.h0
  have e : formOf 1 mt y m d = dayN (mt / 86400 % 7) ++ [44, 32, dg (d / 10), dg d, 45, p, q, t, 45, dg (y % 100 / 10), dg (y % 100), 32, dg (mt % 86400 / 3600 / 10), dg (mt % 86400 / 3600), 58, dg (mt % 86400 / 60 % 60 / 10), dg (mt % 86400 / 60 % 60), 58, dg (mt % 86400 % 60 / 10), dg (mt % 86400 % 60), 32, 71, 77, 84] := by
    show form1 y m d (mt / 86400 % 7) (mt % 86400) = _
    simp [form1, hM, d2, clockL, gmt]
  have hdr : ∀ j, (formOf 1 mt y m d).drop (K + j) = ([44, 32, dg (d / 10), dg d, 45, p, q, t, 45, dg (y % 100 / 10), dg (y % 100), 32, dg (mt % 86400 / 3600 / 10), dg (mt % 86400 / 3600), 58, dg (mt % 86400 / 60 % 60 / 10), dg (mt % 86400 / 60 % 60), 58, dg (mt % 86400 % 60 / 10), dg (mt % 86400 % 60), 32, 71, 77, 84] : List UInt8).drop j := by
    intro j
    rw [e, ← List.drop_drop, ← hK, List.drop_left']
    rfl
  have n1 : refNum (formOf 1 mt y m d) (K + 9) (K + 11) = y % 100 := refNum_d2 _ (K + 9) (y % 100) (by rw [hdr]; rfl) (by omega) (by omega) _ (by omega)
  have n2 : refFind (formOf 1 mt y m d) (K + 5) = m - 1 := refFind_mon _ (K + 5) m (by rw [hdr, hM]; rfl) h.civ.hm1 h.civ.hm2
  have n3 : refNum (formOf 1 mt y m d) (K + 2) (K + 4) = d := refNum_d2 _ (K + 2) d (by rw [hdr]; rfl) (by omega) (by omega) _ (by omega)
  have n4 : refNum (formOf 1 mt y m d) (K + 12) (K + 14) = mt % 86400 / 3600 := refNum_d2 _ (K + 12) _ (by rw [hdr]; rfl) (by omega) (by omega) _ (by omega)
  have n5 : refNum (formOf 1 mt y m d) (K + 15) (K + 17) = mt % 86400 / 60 % 60 := refNum_d2 _ (K + 15) _ (by rw [hdr]; rfl) (by omega) (by omega) _ (by omega)
  have n6 : refNum (formOf 1 mt y m d) (K + 18) (K + 20) = mt % 86400 % 60 := refNum_d2 _ (K + 18) _ (by rw [hdr]; rfl) (by omega) (by omega) _ (by omega)
  have ny : year1 (y % 100) = y := by unfold year1; split <;> omega
  refine ⟨?_, n1, ?_, ?_⟩
  · rw [e, List.length_append, hK]; rfl
  · unfold mom1
    rw [n1, n2, n3, n4, n5, n6, ny, refMoment_of h]
  · rw [e, ← hK, List.take_left']
    rfl

theorem week_cases (w : Int) (h0 : 0 ≤ w) (h1 : w < 7) (P : Int → Prop) (p0 : P 0) (p1 : P 1) (p2 : P 2) (p3 : P 3) (p4 : P 4) (p5 : P 5) (p6 : P 6) : P w := by
  have h : w = 0 ∨ w = 1 ∨ w = 2 ∨ w = 3 ∨ w = 4 ∨ w = 5 ∨ w = 6 := by omega
  rcases h with rfl | rfl | rfl | rfl | rfl | rfl | rfl <;> assumption
/-- No day's name of the same length is another's. -/
theorem dayN_apart : (week7.all fun v => week7.all fun w => v == w || !((dayN v).length == (dayN w).length) || !(dayN v == dayN w)) = true := by decide +kernel
theorem dayN_len : (week7.all fun v => 6 ≤ (dayN v).length && (dayN v).length ≤ 9) = true := by decide +kernel
theorem mem_week (w : Int) (h0 : 0 ≤ w) (h1 : w < 7) : w ∈ week7 := by
  unfold week7
  simp only [List.mem_cons, List.not_mem_nil, or_false]
  omega
theorem dayN_inj {v w : Int} (hv : v ∈ week7) (hw : w ∈ week7) (h : dayN v = dayN w) : v = w := by
  have h1 := List.all_eq_true.1 dayN_apart v hv
  have h2 := List.all_eq_true.1 h1 w hw
  rw [h] at h2
  simpa using h2

theorem ref1_form {mt y m d : Int} (h : Moment mt y m d) (hy2 : y ≤ 2069) (ws : List Int) (hsub : ∀ v ∈ ws, v ∈ week7) (hmem : mt / 86400 % 7 ∈ ws) : ref1 (formOf 1 mt y m d) ws = (mt, 0) := by
  have hm0 := h.h0
  have hy := h.year
  obtain ⟨f1, f2, f3, f4⟩ := form1_at h hy2 _ rfl
  induction ws with
  | nil => simp at hmem
  | cons w ws ih =>
    unfold ref1
    by_cases hw : w = mt / 86400 % 7
    · subst hw
      rw [if_pos ⟨f1, f4⟩, f2, if_neg (by omega), f3, formC_of h, if_pos ⟨hm0, rfl⟩]
    · rw [if_neg]
      · refine ih (fun v hv => hsub v (by simp [hv])) ?_
        rcases List.mem_cons.1 hmem with h1 | h1
        · exact absurd h1.symm hw
        · exact h1
      · rintro ⟨h1, h2⟩
        have hl : (dayN w).length = (dayN (mt / 86400 % 7)).length := by omega
        rw [hl, f4] at h2
        exact hw (dayN_inj (hsub w (by simp)) (mem_week _ (by omega) (by omega)) h2.symm)

theorem refParse_says : Says refParseL := by
  intro s
  constructor
  · rintro mt ⟨k, y, m, d, hM, hk, rfl⟩
    unfold refParseL
    rcases hk with rfl | ⟨rfl, hy⟩ | rfl
    · rw [ref0_form hM]
    · have hl := (form1_at hM hy _ rfl).1
      have hlen := List.all_eq_true.1 dayN_len (mt / 86400 % 7) (mem_week _ (by omega) (by omega))
      simp only [Bool.and_eq_true, decide_eq_true_eq] at hlen
      have e0 : ref0 (formOf 1 mt y m d) = none := by unfold ref0; rw [if_neg (by omega)]
      have e2 : ref2 (formOf 1 mt y m d) = none := by unfold ref2; rw [if_neg (by omega)]
      rw [e0, e2]
      exact ref1_form hM hy week7 (fun v hv => hv) (mem_week _ (by omega) (by omega))
    · rw [(ref2_form hM).1, (ref2_form hM).2]
  · unfold refParseL
    cases h0 : ref0 s with
    | some n =>
      right
      unfold ref0 at h0
      split at h0
      · rename_i hc
        obtain ⟨hl, hn, hs⟩ := hc
        simp only [Option.some.injEq] at h0
        subst h0
        have hy : refNum s 12 16 ≤ 9999 := by
          rcases Int.lt_or_le (refNum s 12 16) 0 with hlt | hge
          · omega
          · have := refNum_bd s 12 16 hge; simp at this; omega
        have hM := refMoment_inv hn hy (refFind_bd s 8)
        exact ⟨_, ⟨0, _, _, _, hM, .inl rfl, by rw [← formC_of hM]; exact hs.symm⟩, rfl⟩
      · cases h0
    | none =>
      simp only
      cases h2 : ref2 s with
      | some n =>
        right
        unfold ref2 at h2
        split at h2
        · rename_i hc
          obtain ⟨hl, hn, hs⟩ := hc
          simp only [Option.some.injEq] at h2
          subst h2
          have hy : refNum s 20 24 ≤ 9999 := by
            rcases Int.lt_or_le (refNum s 20 24) 0 with hlt | hge
            · omega
            · have := refNum_bd s 20 24 hge; simp at this; omega
          have hM := refMoment_inv hn hy (refFind_bd s 4)
          exact ⟨_, ⟨2, _, _, _, hM, .inr (.inr rfl), by rw [← formC_of hM]; exact hs.symm⟩, rfl⟩
        · cases h2
      | none =>
        simp only
        generalize week7 = ws
        induction ws with
        | nil => left; rfl
        | cons w ws ih =>
          unfold ref1
          split
          · split
            · left; rfl
            · rename_i hnum
              split
              · rename_i hc
                obtain ⟨hn, hs⟩ := hc
                right
                have hb := refNum_bd s ((dayN w).length + 9) ((dayN w).length + 11) (by omega)
                rw [show (dayN w).length + 11 - ((dayN w).length + 9) = 2 by omega] at hb
                simp at hb
                have hyy : year1 (refNum s ((dayN w).length + 9) ((dayN w).length + 11)) ≤ 2069 := by unfold year1; split <;> omega
                have hM := refMoment_inv (y := year1 (refNum s ((dayN w).length + 9) ((dayN w).length + 11))) hn (by omega) (refFind_bd s _)
                refine ⟨_, ⟨1, _, _, _, hM, .inr (.inl ⟨rfl, hyy⟩), ?_⟩, rfl⟩
                rw [← formC_of hM]
                exact hs.symm
              · exact ih
          · exact ih
theorem parse_eq (s : List UInt8) : parseL s = refParseL s := parseL_says.eq refParse_says s
end IH
