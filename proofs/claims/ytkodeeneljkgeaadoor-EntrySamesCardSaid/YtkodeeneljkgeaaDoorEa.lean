/- Ea: several texts, one behind the other. -/
import Derived.Test.YtkodeeneljkgeaaDoorEnt2
import Derived.Test.YtkodeeneljkgeaaDoorFie1
import Derived.Test.YtkodeeneljkgeaaDoorOct5
import Derived.Test.YtkodeeneljkgeaaDoorOct12
import Derived.Test.YtkodeeneljkgeaaDoorOct4
import Derived.Test.YtkodeeneljkgeaaDoorSta2
import Derived.Test.YtkodeeneljkgeaaDoorFie14
import Derived.Test.YtkodeeneljkgeaaDoorShape
import Derived.Deep.DeepCutAuto
/- Walks of layer 19: keys, sectors, what is within bounds; texts in their order by the document. Condition: as each states. -/
namespace Go.Proofs.YtkodeeneljkgeaaDoor
open Go.RowKit IH
set_option maxRecDepth 100000
theorem ein_any (n m : Int) (w : World) :
    Calls Tryd.prog 40 #[.int .i64 n, .int .i64 m] w fun e w' => e = .returned (.bool (upTo n m)) ∧ w = w' := by
  unfold upTo
  by_cases h : 0 ≤ n
  · rw [decide_eq_true h]
    go_enter Tryd.func40, Tryd.ntmps40
    go_wp2
    go_ret
    exact ⟨by simp, rfl⟩
  · rw [decide_eq_false h]
    go_enter Tryd.func40, Tryd.ntmps40
    go_wp2
    go_ret
    exact ⟨by simp, rfl⟩
theorem ekey_any (u v : ByteArray) (hu : u.size ≤ 1000000000) (hv : v.size ≤ 1000000000) (w : World) :
    Calls Tryd.prog 16 #[.string u, .string v] w fun e w' => e = .returned (.string (u ++ ⟨#[10]⟩ ++ v)) ∧ w = w' := by
  have h1 : (u ++ (⟨#[10]⟩ : ByteArray)).size ≤ 1000000001 := by rw [← data_len, append_data, List.length_append, data_len]; show u.size + 1 ≤ _; omega
  go_enter Tryd.func16, Tryd.ntmps16
  go_wp2
  go_ret
  exact ⟨rfl, rfl⟩
theorem esectors_any (n : Int) (w : World) (h : n ≤ 9223372036854775807) :
    Calls Tryd.prog 17 #[.int .i64 n] w fun e w' => e = .returned (.int .i64 (need19 n)) ∧ w = w' := by
  unfold need19
  by_cases h1 : n < 1
  · rw [if_pos h1]
    go_enter Tryd.func17, Tryd.ntmps17
    go_wp2
    go_ret
    exact ⟨rfl, rfl⟩
  · rw [if_neg h1]
    go_enter Tryd.func17, Tryd.ntmps17
    go_wp2
    go_ret
    exact ⟨rfl, rfl⟩
theorem rneed_any (n : Int) (w : World) (h : n ≤ 2097152) (h' : -9223372036854775808 ≤ n) :
    Calls Tryd.prog 33 #[.int .i64 n] w fun e w' => e = .returned (.int .i64 (need19 n)) ∧ w = w' := by
  go_enter Tryd.func33, Tryd.ntmps33
  go_wp2
  go_loop [0, 3] (fun m k => ∃ j : Int, 0 ≤ j ∧ j ≤ 40000 ∧ (0 < j → -70 ≤ n - 64 * j) ∧ m = .int .i64 (n - 64 * j) ∧ k = .int .i64 j ∧ (j = 0 ∨ 0 < n - 64 * (j - 1))) (fun m _ => (intOf m).toNat)
  case atStart => exact ⟨0, by omega, by omega, by omega, by simp, rfl, by simp⟩
  case round =>
    obtain ⟨j, hj0, hj1, hj2, rfl, rfl, hj3⟩ := hrel
    by_cases hlt : 0 < n - 64 * j
    · go_wp2
      go_round
      case rel => exact ⟨j + 1, by omega, by omega, by omega, by go_num, rfl, by omega⟩
      case measure => simp [intOf]; omega
    · go_wp2
      go_ret
      refine ⟨ret_int ?_, rfl⟩
      unfold need19
      split <;> omega
theorem lessB_take {x y : List UInt8} {k : Nat} (h : x.take k = y.take k) (hx : k ≤ x.length) (hy : k ≤ y.length) : lessB x y = lessB (x.drop k) (y.drop k) := by
  induction k generalizing x y with
  | zero => simp
  | succ k ih =>
    match x, y, h, hx, hy with
    | a :: x, b :: y, h, hx, hy =>
      simp only [List.take_succ_cons, List.cons.injEq] at h
      obtain ⟨rfl, h⟩ := h
      simp only [List.length_cons] at hx hy
      rw [List.drop_succ_cons, List.drop_succ_cons, ← ih h (by omega) (by omega)]
      simp [lessB]
set_option maxHeartbeats 4000000 in
theorem rless_any (a b : ByteArray) (ha : a.size ≤ 1000000000) (hb : b.size ≤ 1000000000) (w : World) :
    Calls Tryd.prog 30 #[.string a, .string b] w fun e w' => e = .returned (.bool (lessB a.data.toList b.data.toList)) ∧ ∃ q, w' = w.drewN q := by
  obtain ⟨T, hT⟩ : ∃ T, lessB a.data.toList b.data.toList = T := ⟨_, rfl⟩
  rw [hT]
  have HT := Lib.hid hT
  clear hT
  go_enter Tryd.func30, Tryd.ntmps30
  go_wp2
  go_loopw [5] (fun i wr => ∃ k : Nat, i = .int .i64 k ∧ k ≤ a.size ∧ k ≤ b.size ∧ a.data.toList.take k = b.data.toList.take k ∧ ∃ q, wr = w.drewN q) (fun i _ => a.size - (intOf i).toNat)
  case atStart => exact ⟨0, rfl, by omega, by omega, rfl, 0, rfl⟩
  case round =>
    obtain ⟨k, rfl, hka, hkb, htk, q, hq⟩ := hrel
    have HQ := Lib.hid hq
    have hlb := lessB_take htk (by rw [data_len]; exact hka) (by rw [data_len]; exact hkb)
    clear hq
    by_cases hla : k < a.size
    · by_cases hlb2 : k < b.size
      · obtain ⟨x, hx⟩ : ∃ c, a[k] = c := ⟨_, rfl⟩
        obtain ⟨y, hy⟩ : ∃ c, b[k] = c := ⟨_, rfl⟩
        have gx : a.data.toList[k]? = some x := by rw [get_data a k hla, hx]
        have gy : b.data.toList[k]? = some y := by rw [get_data b k hlb2, hy]
        have dx := data_drop a k hla
        have dy := data_drop b k hlb2
        rw [hx] at dx
        rw [hy] at dy
        have jI : (k : Int) < (a.size : Int) := by omega
        have jJ : (k : Int) < (b.size : Int) := by omega
        rw [dx, dy] at hlb
        by_cases hxy : x = y
        · subst hxy
          have HT2 := Lib.hid (show a.data.toList.take (k + 1) = b.data.toList.take (k + 1) by rw [List.take_add_one, List.take_add_one, gx, gy, htk])
          have exy : ((x.toNat : Int) != (x.toNat : Int)) = false := by simp
          clear gx gy dx dy hlb htk
          go_wp2
          go_region
          go_wp2
          go_roundw
          case rel => exact ⟨k + 1, by go_num, by omega, by omega, HT2.out, q + 1, by rw [HQ.out]; rfl⟩
          case measure => simp [intOf]; omega
        · have hne : ((x.toNat : Int) == (y.toNat : Int)) = false := by rw [beq_eq_false_iff_ne]; intro h; exact hxy (UInt8.toNat_inj.1 (by omega))
          have exy : ((x.toNat : Int) != (y.toNat : Int)) = true := by rw [bne, hne]; rfl
          have HL := Lib.hid (HT.out.symm.trans (hlb.trans (show lessB (x :: a.data.toList.drop (k + 1)) (y :: b.data.toList.drop (k + 1)) = decide (x.toNat < y.toNat) by unfold lessB; rw [if_neg hxy])))
          clear gx gy dx dy hlb htk
          go_wp2
          go_region
          go_wp2
          go_region
          go_wp2
          go_ret
          exact ⟨by rw [HL.out]; rfl, q + 2, by rw [HQ.out]; rfl⟩
      · have HL := Lib.hid (HT.out.symm.trans (hlb.trans (show lessB (a.data.toList.drop k) (b.data.toList.drop k) = decide (a.size < b.size) by
          rw [show b.data.toList.drop k = [] from List.drop_eq_nil_of_le (by rw [data_len]; omega), show decide (a.size < b.size) = false from decide_eq_false (by omega)]
          cases a.data.toList.drop k <;> rfl)))
        have jI : (k : Int) < (a.size : Int) := by omega
        have jJ : ¬ (k : Int) < (b.size : Int) := by omega
        clear hlb htk
        go_wp2
        go_ret
        exact ⟨by rw [HL.out]; rfl, q, HQ.out⟩
    · have HL := Lib.hid (HT.out.symm.trans (hlb.trans (show lessB (a.data.toList.drop k) (b.data.toList.drop k) = decide (a.size < b.size) by
        rw [show a.data.toList.drop k = [] from List.drop_eq_nil_of_le (by rw [data_len]; omega)]
        by_cases h : k < b.size
        · rw [data_drop b k h, show decide (a.size < b.size) = true from decide_eq_true (by omega)]; rfl
        · rw [show b.data.toList.drop k = [] from List.drop_eq_nil_of_le (by rw [data_len]; omega), show decide (a.size < b.size) = false from decide_eq_false (by omega)]; rfl)))
      have jI : ¬ (k : Int) < (a.size : Int) := by omega
      clear hlb htk
      go_wp2
      go_ret
      exact ⟨by rw [HL.out]; rfl, q, HQ.out⟩
end Go.Proofs.YtkodeeneljkgeaaDoor

/- Walks of layer 19: are names as they ought to be, by the code. Condition: at most 10^6 names, each within 10^9 octets. -/
namespace Go.Proofs.YtkodeeneljkgeaaDoor
open Go.RowKit IH
set_option maxRecDepth 100000
/-- One name, in its place. -/
def goodN (L : List (List UInt8)) (i : Nat) : Bool := match L[i]? with
  | none => true
  | some s => token s && (lower s == s) && (i == 0 || (match L[i - 1]? with | some p => lessB p s | none => true))
theorem goodN_tail (s t : List UInt8) (r : List (List UInt8)) (i : Nat) : goodN (s :: t :: r) (i + 2) = goodN (t :: r) (i + 1) := by
  unfold goodN
  rw [show i + 2 - 1 = i + 1 by omega, show i + 1 - 1 = i by omega]
  simp only [List.getElem?_cons_succ]
  have e1 : (i + 2 == 0) = false := by simp
  have e2 : (i + 1 == 0) = false := by simp
  rw [e1, e2]
theorem named_iff : ∀ (L : List (List UInt8)), named19 L = true ↔ ∀ i, goodN L i = true
  | [] => by simp [named19, goodN]
  | [s] => by
    constructor
    · intro h i
      cases i with
      | zero => simpa [named19, goodN] using h
      | succ i => simp [goodN]
    · intro h
      simpa [named19, goodN] using h 0
  | s :: t :: r => by
    have ih := named_iff (t :: r)
    have e : named19 (s :: t :: r) = (token s && (lower s == s) && lessB s t && named19 (t :: r)) := rfl
    rw [e]
    constructor
    · intro h i
      simp only [Bool.and_eq_true] at h
      obtain ⟨⟨⟨h1, h2⟩, h3⟩, h4⟩ := h
      have hi := ih.1 h4
      match i with
      | 0 => simp [goodN, h1, h2]
      | 1 =>
        have h0 := hi 0
        simp only [goodN, List.getElem?_cons_zero, beq_self_eq_true, Bool.true_or, Bool.and_true] at h0
        simp only [goodN, List.getElem?_cons_succ, List.getElem?_cons_zero, h0, Bool.true_and]
        simpa using h3
      | i + 2 => rw [goodN_tail]; exact hi (i + 1)
    · intro h
      have h0 := h 0
      have h1 := h 1
      simp only [goodN, List.getElem?_cons_zero, beq_self_eq_true, Bool.true_or, Bool.and_true] at h0
      have h1' : (token t && (lower t == t)) = true ∧ lessB s t = true := by
        simpa [goodN] using h1
      have h2 : named19 (t :: r) = true := ih.2 fun i => by
        cases i with
        | zero => simp only [goodN, List.getElem?_cons_zero, beq_self_eq_true, Bool.true_or, Bool.and_true]; exact h1'.1
        | succ i => rw [← goodN_tail s]; exact h (i + 2)
      rw [h0, h1'.2, h2]; rfl
theorem named_no {L : List (List UInt8)} {i : Nat} (h : goodN L i = false) : named19 L = false := by
  rw [← Bool.not_eq_true]
  intro hh
  have := (named_iff L).1 hh i
  rw [h] at this; cases this
theorem named_yes {L : List (List UInt8)} (h : ∀ i, i < L.length → goodN L i = true) : named19 L = true := by
  rw [named_iff]
  intro i
  rcases Nat.lt_or_ge i L.length with hi | hi
  · exact h i hi
  · unfold goodN; rw [List.getElem?_eq_none hi]
theorem goodN_0 {L : List (List UInt8)} {s : List UInt8} (h : L[0]? = some s) : goodN L 0 = (token s && (lower s == s)) := by
  unfold goodN; rw [h]; simp
theorem goodN_s {L : List (List UInt8)} {i : Nat} {p s : List UInt8} (hp : L[i]? = some p) (h : L[i + 1]? = some s) : goodN L (i + 1) = (token s && (lower s == s) && lessB p s) := by
  unfold goodN; rw [h, show i + 1 - 1 = i by omega, hp]; simp
/-- A text of a slice. -/
theorem str_in {w : World} {B n c : Nat} {A : Option Addr} {L : List (List UInt8)} (h : SliceIn w B 1 A n c (strsV L)) {k : Nat} {a : List UInt8} (hk : L[k]? = some a) : ∃ b off, A = some ⟨b, off, none⟩ ∧ b < B ∧ (∀ j x, L[j]? = some x → w.cell? ⟨b, off + j, none⟩ = some (.string ⟨x.toArray⟩)) := by
  have hl : k < L.length := (List.getElem?_eq_some_iff.1 hk).1
  obtain ⟨h1, _, _, h4⟩ := h
  have : (strsV L).length = L.length := by simp [strsV]
  obtain ⟨b, off, rfl, hb, hc⟩ := h4 (by omega)
  exact ⟨b, off, rfl, hb, fun j x hx => hc j _ (by simp [strsV, hx])⟩
theorem bytesLess_eq : ∀ x y : List UInt8, Op.bytesLess x y = lessB x y
  | _, [] => by cases ‹List UInt8› <;> rfl
  | [], _ :: _ => rfl
  | a :: x, b :: y => by
    unfold Op.bytesLess lessB
    rw [bytesLess_eq x y]
    by_cases e : a = b
    · subst e
      simp
    · rw [if_neg e]
      have : (a == b) = false := by simpa using e
      rw [this, Bool.false_and, Bool.or_false]
      rfl
def smallN (M : Nat) (L : List (List UInt8)) : Prop := ∀ s ∈ L, s.length ≤ M
set_option maxHeartbeats 8000000 in
theorem named_any (A : Option Addr) (n c : Nat) (L : List (List UInt8)) (w : World) (hin : SliceIn w w.heap.size 1 A n c (strsV L)) (hn : n ≤ 1000000) (hs : smallN 1000000000 L) :
    Calls Tryd.prog 39 #[.slice A n c] w fun e w' => e = .returned (.bool (named19 L && decide (n ≤ 128))) ∧ Below w.heap.size w w' := by
  have hL : L.length = n := by have := hin.1; rw [strsV_length] at this; omega
  have Hin := Lib.hid hin
  have HL := Lib.hid hL
  clear hin hL
  obtain ⟨T, hT⟩ : ∃ T, named19 L = T := ⟨_, rfl⟩
  rw [hT]
  have HT := Lib.hid hT
  clear hT
  go_enter Tryd.func39, Tryd.ntmps39
  go_wp2
  go_loopw [7] (fun i wr => ∃ k : Nat, i = .int .i64 k ∧ k ≤ n ∧ (∀ j, j < k → goodN L j = true) ∧ Below w.heap.size w wr) (fun i _ => n - (intOf i).toNat)
  case atStart => exact ⟨0, rfl, by omega, fun j hj => absurd hj (by omega), Below.refl _ _⟩
  case round =>
    obtain ⟨k, rfl, hk, hgood, hbel⟩ := hrel
    have Hbel := Lib.hid hbel
    clear hbel
    by_cases hlt : k < n
    · obtain ⟨s, hsk⟩ : ∃ s, L[k]? = some s := ⟨_, List.getElem?_eq_getElem (by rw [HL.out]; exact hlt)⟩
      obtain ⟨b, off, rfl, hb, hcells⟩ := str_in (Hin.out.below Hbel.out) hsk
      have hcW : ∀ W, Below w.heap.size w W → ∀ j x, L[j]? = some x → W.cell? ⟨b, off + j, none⟩ = some (.string ⟨x.toArray⟩) := fun W h4 j x hx => (h4.cell (p := ⟨b, off + j, none⟩) hb).trans ((Hbel.out.cell (p := ⟨b, off + j, none⟩) hb).symm.trans (hcells j x hx))
      have c0 := hcells k s hsk
      have hsb := hs s (List.mem_of_getElem? hsk)
      have TK : ∀ w, Calls Tryd.prog 54 #[.string ⟨s.toArray⟩] w fun e w' => e = .returned (.bool (token s)) ∧ w = w' := fun w => Token_any ⟨s.toArray⟩ (by rw [size_mk]; exact hsb) w
      have LO : ∀ w, Calls Tryd.prog 55 #[.string ⟨s.toArray⟩] w fun e w' => e = .returned (.string ⟨(lower s).toArray⟩) ∧ Below w.heap.size w w' := fun w => Lower_any ⟨s.toArray⟩ (by rw [size_mk]; exact hsb) w
      have hlo : ((⟨(lower s).toArray⟩ : ByteArray).toList == (⟨s.toArray⟩ : ByteArray).toList) = (lower s == s) := by rw [ByteArray.toList_eq, ByteArray.toList_eq]
      have hsl : (⟨s.toArray⟩ : ByteArray).toList = s := by rw [ByteArray.toList_eq]
      obtain ⟨S, hS⟩ : ∃ S : ByteArray, (⟨s.toArray⟩ : ByteArray) = S := ⟨_, rfl⟩
      obtain ⟨S2, hS2⟩ : ∃ S : ByteArray, (⟨(lower s).toArray⟩ : ByteArray) = S := ⟨_, rfl⟩
      rw [hS] at TK LO c0 hlo hsl
      rw [hS2] at LO hlo
      obtain ⟨b1, hb1⟩ : ∃ b, token s = b := ⟨_, rfl⟩
      obtain ⟨b2, hb2⟩ : ∃ b, (lower s == s) = b := ⟨_, rfl⟩
      rw [hb1] at TK
      rw [hb2] at hlo
      replace TK := Lib.hid TK
      replace LO := Lib.hid LO
      have lon : (S2.toList != S.toList) = !b2 := by rw [bne, hlo]
      clear hcells
      replace hgood := Lib.hid hgood
      by_cases hk0 : k = 0
      · subst hk0
        have hg := goodN_0 hsk
        rw [hb1, hb2] at hg
        replace hg := Lib.hid hg
        rw [Nat.add_zero] at c0
        have k0 : ¬ ((0 : Int) < ((0 : Nat) : Int)) := by omega
        clear hsk hS hS2 hb1 hb2 hs hcW hsl
        cases b1 <;> cases b2
        all_goals go_wp2_with (first
            | (go_at_call 54; (with_reducible refine (TK.out _).mono ?_); rintro e w2 ⟨rfl, rfl⟩)
            | (go_at_call 55; (with_reducible refine (LO.out _).mono ?_); rintro e w3 ⟨rfl, hb3⟩; have B3 := Lib.hid (below_step Hbel.out hb3); clear hb3))
        all_goals first
          | (go_ret; exact ⟨ret_bool (by rw [← HT.out, named_no (i := 0) (by rw [hg.out]; rfl), Bool.false_and]), by first | exact B3.out | exact Hbel.out⟩)
          | exact ⟨⟨1, by go_num, by omega, fun j hj => by (obtain rfl : j = 0 := by omega); rw [hg.out]; rfl, B3.out⟩, by simp [intOf]; omega⟩
      · obtain ⟨j, rfl⟩ : ∃ j, k = j + 1 := ⟨k - 1, by omega⟩
        obtain ⟨p, hp⟩ : ∃ p, L[j]? = some p := ⟨_, List.getElem?_eq_getElem (by rw [HL.out]; omega)⟩
        have hg := goodN_s hp hsk
        rw [hb1, hb2] at hg
        obtain ⟨b3, hb3⟩ : ∃ b, lessB p s = b := ⟨_, rfl⟩
        rw [hb3] at hg
        have c1 : ∀ W, Below w.heap.size w W → W.cell? ⟨b, off + j, none⟩ = some (.string ⟨p.toArray⟩) := fun W h4 => hcW W h4 j p hp
        have hpl : (⟨p.toArray⟩ : ByteArray).toList = p := by rw [ByteArray.toList_eq]
        obtain ⟨Pp, hPp⟩ : ∃ S : ByteArray, (⟨p.toArray⟩ : ByteArray) = S := ⟨_, rfl⟩
        rw [hPp] at c1 hpl
        have hle : Op.bytesLess Pp.toList S.toList = b3 := by rw [hpl, hsl, bytesLess_eq, hb3]
        have j1 : ((j + 1 : Nat) : Int) - 1 = (j : Int) := by omega
        have j0 : (0 : Int) < ((j + 1 : Nat) : Int) := by omega
        have jn : (j : Int) < (n : Int) := by omega
        have jl : j < n := by omega
        replace hg := Lib.hid hg
        replace c1 := Lib.hid c1
        clear hsk hp hS hS2 hb1 hb2 hs hb3 hPp hpl hsl hcW
        cases b1 <;> cases b2 <;> cases b3
        all_goals go_wp2_with (first
            | (go_at_call 54; (with_reducible refine (TK.out _).mono ?_); rintro e w2 ⟨rfl, rfl⟩)
            | (go_at_call 55; (with_reducible refine (LO.out _).mono ?_); rintro e w3 ⟨rfl, hb3⟩; have B3 := Lib.hid (below_step Hbel.out hb3); have d1 := c1.out w3 B3.out; clear hb3))
        all_goals first
          | (go_ret; exact ⟨ret_bool (by rw [← HT.out, named_no (i := j + 1) (by rw [hg.out]; rfl), Bool.false_and]), by first | exact B3.out | exact Hbel.out⟩)
          | exact ⟨⟨j + 2, by go_num, by omega, fun i hi => by (rcases (show i = j + 1 ∨ i < j + 1 by omega) with rfl | hi); (rw [hg.out]; rfl); exact hgood.out i hi, B3.out⟩, by simp [intOf]; omega⟩
    · have HN := Lib.hid (HT.out.symm.trans (named_yes fun i hi => hgood i (by rw [HL.out] at hi; omega)))
      clear hgood
      go_wp2
      go_ret
      exact ⟨ret_bool (by rw [HN.out, Bool.true_and]; exact decide_eq_decide.2 (by omega)), Hbel.out⟩
end Go.Proofs.YtkodeeneljkgeaaDoor

/- Walks of layer 19: a body's extents, by the code. Condition: at most 10^6 extents. -/
namespace Go.Proofs.YtkodeeneljkgeaaDoor
open Go.RowKit IH
set_option maxRecDepth 100000
def extCells (x : Int × Int) : List Value := [.int .i64 x.1, .int .i64 x.2]
def extsV (L : List (Int × Int)) : List Value := L.flatMap extCells
theorem extsV_length (L : List (Int × Int)) : (extsV L).length = L.length * 2 := by
  induction L with
  | nil => rfl
  | cons f L ih => rw [extsV, List.flatMap_cons, List.length_append, ← extsV, ih]; simp [extCells]; omega
theorem extsV_append (a b : List (Int × Int)) : extsV (a ++ b) = extsV a ++ extsV b := by simp [extsV]
theorem extsV_drop (L : List (Int × Int)) (k : Nat) : (extsV L).drop (k * 2) = extsV (L.drop k) := by
  induction k generalizing L with
  | zero => simp
  | succ k ih =>
    cases L with
    | nil => simp [extsV]
    | cons f L =>
      rw [List.drop_succ_cons, ← ih, show (k + 1) * 2 = 2 + k * 2 by omega, ← List.drop_drop]
      rfl
theorem extsV_get (L : List (Int × Int)) (k : Nat) (f : Int × Int) (h : L[k]? = some f) : (extsV L)[k * 2]? = some (.int .i64 f.1) ∧ (extsV L)[k * 2 + 1]? = some (.int .i64 f.2) := by
  obtain ⟨hk, rfl⟩ := List.getElem?_eq_some_iff.1 h
  have e : extsV (L.drop k) = .int .i64 (L[k]).1 :: .int .i64 (L[k]).2 :: extsV (L.drop (k + 1)) := by rw [List.drop_eq_getElem_cons hk]; rfl
  rw [← extsV_drop] at e
  constructor
  · have := congrArg (·[0]?) e
    simpa [List.getElem?_drop] using this
  · have := congrArg (·[1]?) e
    simpa [List.getElem?_drop] using this
theorem ext_at {w : World} {B n c : Nat} {A : Option Addr} {L : List (Int × Int)} (h : SliceIn w B 2 A n c (extsV L)) {k : Nat} {f : Int × Int} (hk : L[k]? = some f) :
    ∃ b off, A = some ⟨b, off, none⟩ ∧ b < B ∧ w.cell? ⟨b, off + k * 2, none⟩ = some (.int .i64 f.1) ∧ w.cell? ⟨b, off + k * 2 + 1, none⟩ = some (.int .i64 f.2) := by
  obtain ⟨h1, h2, h3, h4⟩ := h
  have hkl : k < L.length := (List.getElem?_eq_some_iff.1 hk).1
  rw [extsV_length] at h1
  obtain ⟨b, off, rfl, hb, hc⟩ := h4 (by omega)
  obtain ⟨g1, g2⟩ := extsV_get L k f hk
  exact ⟨b, off, rfl, hb, hc _ _ g1, by rw [Nat.add_assoc]; exact hc _ _ g2⟩
theorem ext_count {w : World} {B n c : Nat} {A : Option Addr} {L : List (Int × Int)} (h : SliceIn w B 2 A n c (extsV L)) : L.length = n := by
  have := h.1
  rw [extsV_length] at this
  omega
def sumX (L : List (Int × Int)) : Int := (L.map (·.2)).sum
theorem sumX_snoc {L : List (Int × Int)} {k : Nat} {x : Int × Int} (h : L[k]? = some x) : sumX (L.take (k + 1)) = sumX (L.take k) + x.2 := by
  rw [List.take_add_one, h]; simp [sumX]
theorem allX_snoc {L : List (Int × Int)} {k : Nat} {x : Int × Int} (h : L[k]? = some x) : (L.take (k + 1)).all ext19 = ((L.take k).all ext19 && ext19 x) := by
  rw [List.take_add_one, h]; simp
theorem allX_bad {L : List (Int × Int)} {k : Nat} {x : Int × Int} (h : L[k]? = some x) (hx : ext19 x = false) : L.all ext19 = false := by
  rw [← Bool.not_eq_true]
  intro hh
  have := List.all_eq_true.1 hh x (List.mem_of_getElem? h)
  rw [hx] at this; cases this
def placedB (L : List (Int × Int)) (size : Int) : Bool := L.all ext19 && decide (L.length ≤ 8) && decide (sumX L = need19 size)
theorem placed_bad {L : List (Int × Int)} {k : Nat} {x : Int × Int} {size : Int} (h : L[k]? = some x) (hx : ext19 x = false) : placedB L size = false := by
  unfold placedB; rw [allX_bad h hx]; rfl
theorem beqI (a b : Int) : (a == b) = decide (a = b) := by by_cases h : a = b <;> simp [h]
set_option maxHeartbeats 8000000 in
theorem placed_any (A : Option Addr) (n c : Nat) (L : List (Int × Int)) (size : Int) (w : World) (hin : SliceIn w w.heap.size 2 A n c (extsV L)) (hn : n ≤ 1000000) (hz : size ≤ 9223372036854775807) :
    Calls Tryd.prog 41 #[.slice A n c, .int .i64 size] w fun e w' => e = .returned (.bool (placedB L size)) ∧ Below w.heap.size w w' := by
  have HL := Lib.hid (ext_count hin)
  have Hin := Lib.hid hin
  have SE := Lib.hid fun w1 => esectors_any size w1 hz
  clear hin hz
  obtain ⟨T, hT⟩ : ∃ T, placedB L size = T := ⟨_, rfl⟩
  rw [hT]
  have HT := Lib.hid hT
  clear hT
  generalize hnd : need19 size = nd at SE
  have Hnd := Lib.hid hnd
  clear hnd
  go_enter Tryd.func41, Tryd.ntmps41
  go_wp2
  go_loopw [5, 10] (fun x i wr => ∃ k : Nat, k ≤ n ∧ i = .int .i64 k ∧ x = .int .i64 (sumX (L.take k)) ∧ (L.take k).all ext19 = true ∧ (0 ≤ sumX (L.take k) ∧ sumX (L.take k) ≤ 65536 * k) ∧ Below w.heap.size w wr) (fun _ i _ => n - (intOf i).toNat)
  case atStart => exact ⟨0, by omega, rfl, rfl, rfl, by simp [sumX], Below.refl _ _⟩
  case round =>
    obtain ⟨k, hk, rfl, rfl, hall, ⟨hs0, hs1⟩, hbel⟩ := hrel
    have Hbel := Lib.hid hbel
    clear hbel
    by_cases hlt : k < n
    · obtain ⟨x, hx⟩ : ∃ x, L[k]? = some x := ⟨_, List.getElem?_eq_getElem (by rw [HL.out]; omega)⟩
      obtain ⟨b, off, rfl, hb, c0, c1⟩ := ext_at (Hin.out.below Hbel.out) hx
      have Hsn := Lib.hid (sumX_snoc hx)
      have Han := Lib.hid ((allX_snoc hx).trans (by rw [hall]; rfl : _ = ext19 x))
      have HB := Lib.hid fun h : ext19 x = false => HT.out.symm.trans (placed_bad (size := size) hx h)
      clear hall hx
      generalize sumX (L.take k) = S at *
      obtain ⟨p, q⟩ := x
      simp only at c0 c1 Hsn
      have EI := Lib.hid fun w1 => ein_any p 65536 w1
      have hways : upTo p 65536 = false ∨ (upTo p 65536 = true ∧ 0 ≤ p ∧ p ≤ 65536 ∧ q < 1) ∨ (upTo p 65536 = true ∧ 0 ≤ p ∧ p ≤ 65536 ∧ ¬ q < 1 ∧ 65536 - p < q) ∨ (upTo p 65536 = true ∧ 0 ≤ p ∧ p ≤ 65536 ∧ ¬ q < 1 ∧ ¬ 65536 - p < q) := by
        cases hu : upTo p 65536
        · exact .inl rfl
        · obtain ⟨u1, u2⟩ := upTo_true.1 hu
          refine .inr ?_
          rcases (show q < 1 ∨ (¬ q < 1 ∧ 65536 - p < q) ∨ (¬ q < 1 ∧ ¬ 65536 - p < q) by omega) with h | ⟨h, h'⟩ | ⟨h, h'⟩
          · exact .inl ⟨rfl, u1, u2, h⟩
          · exact .inr (.inl ⟨rfl, u1, u2, h, h'⟩)
          · exact .inr (.inr ⟨rfl, u1, u2, h, h'⟩)
      rcases hways with h1 | ⟨h1, h2, h3, h4⟩ | ⟨h1, h2, h3, h4, h5⟩ | ⟨h1, h2, h3, h4, h5⟩
      · have HN := Lib.hid (HB.out (by simp [ext19, h1]))
        rw [h1] at EI
        clear h1
        go_wp2_with (go_at_call 40; (with_reducible refine (EI.out _).mono ?_); rintro e w2 ⟨rfl, rfl⟩)
        go_ret
        exact ⟨ret_bool HN.out.symm, Hbel.out.alloc Hbel.out.size _⟩
      · have HN := Lib.hid (HB.out (by simp [ext19, h1]; omega))
        rw [h1] at EI
        clear h1
        go_wp2_with (go_at_call 40; (with_reducible refine (EI.out _).mono ?_); rintro e w2 ⟨rfl, rfl⟩)
        go_ret
        exact ⟨ret_bool HN.out.symm, Hbel.out.alloc Hbel.out.size _⟩
      · have HN := Lib.hid (HB.out (by simp [ext19, h1]; omega))
        rw [h1] at EI
        clear h1
        go_wp2_with (go_at_call 40; (with_reducible refine (EI.out _).mono ?_); rintro e w2 ⟨rfl, rfl⟩)
        go_ret
        exact ⟨ret_bool HN.out.symm, Hbel.out.alloc Hbel.out.size _⟩
      · have HN := Lib.hid (Han.out.trans (by simp [ext19, h1]; omega : _ = true))
        rw [h1] at EI
        clear h1
        go_wp2_with (go_at_call 40; (with_reducible refine (EI.out _).mono ?_); rintro e w2 ⟨rfl, rfl⟩)
        go_roundw
        case rel => exact ⟨k + 1, by omega, by go_num, by rw [Hsn.out], HN.out, by rw [Hsn.out]; omega, Hbel.out.alloc Hbel.out.size _⟩
        case measure => simp [intOf]; omega
    · have hkn : k = n := by omega
      have e : L.take k = L := List.take_of_length_le (by rw [HL.out]; omega)
      rw [e] at hall hs0 hs1 ⊢
      have HN : Hid (T = (decide ((n : Int) ≤ 8) && decide (sumX L = nd))) := Lib.hid (by
        rw [← HT.out]; unfold placedB; rw [hall, Bool.true_and, HL.out, Hnd.out]
        congr 1
        exact decide_eq_decide.2 (by omega))
      clear hall e hkn
      generalize sumX L = S at *
      go_wp2_with (go_at_call 17; (with_reducible refine (SE.out _).mono ?_); rintro e w2 ⟨rfl, rfl⟩)
      all_goals (go_ret; exact ⟨ret_bool (by rw [HN.out]; first | (simp [*]; done) | (simp [*]; omega) | (simp only [beqI]; simp [*]; done)), Hbel.out⟩)
end Go.Proofs.YtkodeeneljkgeaaDoor

/- Walks of layer 19: which entries are right, by the code. Condition: the entry's own (EntS). -/
namespace Go.Proofs.YtkodeeneljkgeaaDoor
open Go.RowKit IH
set_option maxRecDepth 100000
set_option maxHeartbeats 16000000 in
theorem eright_raw (U V M T R K : ByteArray) (A1 : Option Addr) (n1 c1 : Nat) (A2 : Option Addr) (n2 c2 : Nat) (A3 : Option Addr) (n3 c3 : Nat) (st mi as_ go_ or_ sz su : Int) (b1 r1 r2 r3 r4 : Bool) (w : World)
    (CT : ∀ w, Calls Tryd.prog 36 #[.string U, .string ⟨#[10]⟩] w fun e w' => e = .returned (.bool b1) ∧ w = w')
    (KY : ∀ w, Calls Tryd.prog 16 #[.string U, .string V] w fun e w' => e = .returned (.string K) ∧ w = w')
    (RS : ∀ w, Calls Tryd.prog 37 #[.agg #[.string M, .string T, .int .i64 st, .string R, .int .i64 mi]] w fun e w' => e = .returned (.bool r1) ∧ Below w.heap.size w w')
    (RF : ∀ W, Below w.heap.size w W → Calls Tryd.prog 38 #[.slice A2 n2 c2] W fun e w' => e = .returned (.bool r2) ∧ Below W.heap.size W w')
    (NM : ∀ W, Below w.heap.size w W → Calls Tryd.prog 39 #[.slice A1 n1 c1] W fun e w' => e = .returned (.bool r3) ∧ Below W.heap.size W w')
    (PL : ∀ W, Below w.heap.size w W → Calls Tryd.prog 41 #[.slice A3 n3 c3, .int .i64 sz] W fun e w' => e = .returned (.bool r4) ∧ Below W.heap.size W w') :
    Calls Tryd.prog 14 #[.agg #[.string U, .slice A1 n1 c1, .string V, .string M, .string T, .int .i64 st, .string R, .int .i64 mi, .slice A2 n2 c2, .int .i64 as_, .int .i64 go_, .int .i64 or_, .int .i64 sz, .int .u32 su, .slice A3 n3 c3]] w
      fun e w' => e = .returned (.bool ((!(U.toList == []) && decide ((U.size : Int) ≤ 100) && !b1 && decide ((K.size : Int) ≤ 100)) && ((st != 0) && r1 && r2 && r3) && (upTo as_ 1099511627776 && upTo go_ 1099511627776 && upTo or_ 1152921504606846975 && upTo sz 1048576) && r4)) ∧ Below w.heap.size w w' := by
  obtain ⟨x1, hx1⟩ : ∃ x, (!(U.toList == []) && decide ((U.size : Int) ≤ 100) && !b1 && decide ((K.size : Int) ≤ 100)) = x := ⟨_, rfl⟩
  obtain ⟨x2, hx2⟩ : ∃ x, ((st != 0) && r1 && r2 && r3) = x := ⟨_, rfl⟩
  obtain ⟨x3, hx3⟩ : ∃ x, (upTo as_ 1099511627776 && upTo go_ 1099511627776 && upTo or_ 1152921504606846975 && upTo sz 1048576) = x := ⟨_, rfl⟩
  rw [hx1, hx2, hx3]
  replace hx1 := Lib.hid hx1
  replace hx2 := Lib.hid hx2
  replace hx3 := Lib.hid hx3
  have EI := Lib.hid fun (a m : Int) (w : World) => ein_any a m w
  replace CT := Lib.hid CT
  replace KY := Lib.hid KY
  replace RS := Lib.hid RS
  replace RF := Lib.hid RF
  replace NM := Lib.hid NM
  replace PL := Lib.hid PL
  have NW := Lib.hid (RowAt.new w 33 [.string U, .slice A1 n1 c1, .string V, .string M, .string T, .int .i64 st, .string R, .int .i64 mi, .slice A2 n2 c2, .int .i64 as_, .int .i64 go_, .int .i64 or_, .int .i64 sz, .int .u32 su, .slice A3 n3 c3])
  have NB := Lib.hid (below_al w (.cells #[.string U, .slice A1 n1 c1, .string V, .string M, .string T, .int .i64 st, .string R, .int .i64 mi, .slice A2 n2 c2, .int .i64 as_, .int .i64 go_, .int .i64 or_, .int .i64 sz, .int .u32 su, .slice A3 n3 c3] 33))
  go_enter Tryd.func14, Tryd.ntmps14
  go_upto_region 1 with fail
  go_cut [3] (fun s wx => s = .bool x1 ∧ RowAt wx w.heap.size 33 [.string U, .slice A1 n1 c1, .string V, .string M, .string T, .int .i64 st, .string R, .int .i64 mi, .slice A2 n2 c2, .int .i64 as_, .int .i64 go_, .int .i64 or_, .int .i64 sz, .int .u32 su, .slice A3 n3 c3] ∧ Below w.heap.size w wx)
  case first =>
    cases b1
    all_goals
      go_wp2_with (first
        | (go_at_call 36; (with_reducible refine (CT.out _).mono ?_); rintro e w2 ⟨rfl, rfl⟩)
        | (go_at_call 16; (with_reducible refine (KY.out _).mono ?_); rintro e w2 ⟨rfl, rfl⟩))
      all_goals (go_meet; exact ⟨congrArg Value.bool (by rw [← hx1.out]; first | (simp [*]; done) | (simp [*]; omega)), NW.out, NB.out⟩)
  case rest =>
    obtain ⟨rfl, hR, hB⟩ := hcut
    have HR := Lib.hid hR
    have HB := Lib.hid hB
    clear hB NW NB CT KY
    have d3 := hR.cell (j := 3) rfl
    have d4 := hR.cell (j := 4) rfl
    have d5 := hR.cell (j := 5) rfl
    have d6 := hR.cell (j := 6) rfl
    have d7 := hR.cell (j := 7) rfl
    clear hR
    go_upto_region 2 with fail
    go_cut [4] (fun s wx => s = .bool x2 ∧ RowAt wx w.heap.size 33 [.string U, .slice A1 n1 c1, .string V, .string M, .string T, .int .i64 st, .string R, .int .i64 mi, .slice A2 n2 c2, .int .i64 as_, .int .i64 go_, .int .i64 or_, .int .i64 sz, .int .u32 su, .slice A3 n3 c3] ∧ Below w.heap.size w wx)
    case first =>
      obtain ⟨st', hst⟩ : ∃ s, s = st := ⟨_, rfl⟩
      rw [← hst] at RS d5 hx2
      replace hst := Lib.hid hst
      cases r1
      all_goals
        go_wp2_with (first
          | (go_at_call 37; (with_reducible refine (RS.out _).mono ?_); rintro e w2 ⟨rfl, hb2⟩; have R2 := Lib.hid (HR.out.below hb2 HR.out.lt); have B2 := Lib.hid (below_step HB.out hb2); have e1 := R2.out.cell (j := 8) rfl; clear hb2)
          | (go_at_call 38; (with_reducible refine (RF.out _ B2.out).mono ?_); rintro e w3 ⟨rfl, hb3⟩; have R3 := Lib.hid (R2.out.below hb3 R2.out.lt); have B3 := Lib.hid (below_step B2.out hb3); have e2 := R3.out.cell (j := 1) rfl; clear hb3)
          | (go_at_call 39; (with_reducible refine (NM.out _ B3.out).mono ?_); rintro e w4 ⟨rfl, hb4⟩; have R4 := Lib.hid (R3.out.below hb4 R3.out.lt); have B4 := Lib.hid (below_step B3.out hb4); clear hb4))
        all_goals (go_meet; exact ⟨congrArg Value.bool (by rw [← hx2.out]; first | (simp [*]; done) | (simp [*]; omega)), by first | exact R4.out | exact R3.out | exact R2.out | exact HR.out, by first | exact B4.out | exact B3.out | exact B2.out | exact HB.out⟩)
    case rest =>
      clear d3 d4 d5 d6 d7 HR HB RS RF NM
      obtain ⟨rfl, hR, hB⟩ := hcut
      obtain ⟨w2, hw2⟩ : ∃ w2 : World, w2 = wc := ⟨_, rfl⟩
      subst hw2
      have HR := Lib.hid hR
      have HB := Lib.hid hB
      clear hB
      have d9 := hR.cell (j := 9) rfl
      have d10 := hR.cell (j := 10) rfl
      have d11 := hR.cell (j := 11) rfl
      have d12 := hR.cell (j := 12) rfl
      have d14 := hR.cell (j := 14) rfl
      clear hR
      go_upto_region 3 with fail
      go_cut [5] (fun s wx => s = .bool x3 ∧ wx = w2)
      case first =>
        go_wp2_with (go_at_call 40; (with_reducible refine (EI.out _ _ _).mono ?_); rintro e w4 ⟨rfl, rfl⟩)
        all_goals (go_meet; exact ⟨congrArg Value.bool (by rw [← hx3.out]; first | (simp [*]; done) | (simp [*]; omega)), rfl⟩)
      case rest =>
        obtain ⟨rfl, hwc⟩ := hcut
        subst hwc
        cases x1 <;> cases x2 <;> cases x3
        all_goals
          go_wp2_with (go_at_call 41; (with_reducible refine (PL.out _ HB.out).mono ?_); rintro e w4 ⟨rfl, hb4⟩; have B4 := Lib.hid (below_step HB.out hb4); clear hb4)
          all_goals (go_ret; exact ⟨ret_bool (by simp), by first | exact B4.out | exact HB.out⟩)
end Go.Proofs.YtkodeeneljkgeaaDoor

/- Layer 19: an entry as an argument; which entries are right, by the code. Condition: the entry's own (EntS). -/
namespace Go.Proofs.YtkodeeneljkgeaaDoor
open Go.RowKit IH
set_option maxRecDepth 100000
/-- Where an entry's lists lie. -/
structure EntA where
  A1 : Option Addr
  n1 : Nat
  c1 : Nat
  A2 : Option Addr
  n2 : Nat
  c2 : Nat
  A3 : Option Addr
  n3 : Nat
  c3 : Nat
def entC (e : Entry) (p : EntA) : List Value :=
  [.string ⟨e.uri.toArray⟩, .slice p.A1 p.n1 p.c1, .string ⟨e.variant.toArray⟩, .string ⟨e.method.toArray⟩, .string ⟨e.target.toArray⟩, .int .i64 e.status, .string ⟨e.reason.toArray⟩, .int .i64 e.minor, .slice p.A2 p.n2 p.c2, .int .i64 e.asked, .int .i64 e.got, .int .i64 e.order, .int .i64 e.size, .int .u32 e.sum, .slice p.A3 p.n3 p.c3]
structure EntIn (w : World) (B : Nat) (e : Entry) (p : EntA) : Prop where
  names : SliceIn w B 1 p.A1 p.n1 p.c1 (strsV e.names)
  fields : SliceIn w B 2 p.A2 p.n2 p.c2 (fldsV e.fields)
  body : SliceIn w B 2 p.A3 p.n3 p.c3 (extsV e.body)
theorem EntIn.below {w w' : World} {B : Nat} {e : Entry} {p : EntA} (h : EntIn w B e p) (hb : Below B w w') : EntIn w' B e p := ⟨h.names.below hb, h.fields.below hb, h.body.below hb⟩
theorem EntIn.more {w : World} {B B' : Nat} {e : Entry} {p : EntA} (h : EntIn w B e p) (hB : B ≤ B') : EntIn w B' e p := ⟨h.names.more hB, h.fields.more hB, h.body.more hB⟩
theorem EntIn.at_ {w w' : World} {e : Entry} {p : EntA} (h : EntIn w w.heap.size e p) (hb : Below w.heap.size w w') : EntIn w' w'.heap.size e p := (h.below hb).more hb.size
structure EntS (e : Entry) (p : EntA) : Prop where
  u : e.uri.length ≤ 1000000
  v : e.variant.length ≤ 1000000
  m : e.method.length ≤ 9223372036854775807
  t : e.target.length ≤ 9223372036854775807
  r : e.reason.length ≤ 1000000
  n1 : p.n1 ≤ 1000000
  n2 : p.n2 ≤ 1000000
  n3 : p.n3 ≤ 1000000
  names : smallN 1000000 e.names
  fields : smallF 1000000 e.fields
  z0 : -9223372036854775808 ≤ e.size
  z : e.size ≤ 9223372036854775807
theorem smallN.mono {M M' : Nat} {L : List (List UInt8)} (h : smallN M L) (hM : M ≤ M') : smallN M' L := fun s hs => Nat.le_trans (h s hs) hM
theorem smallF.mono {M M' : Nat} {L : List Fld} (h : smallF M L) (hM : M ≤ M') : smallF M' L := fun s hs => ⟨Nat.le_trans (h s hs).1 hM, Nat.le_trans (h s hs).2 hM⟩
theorem EntS.sta {e : Entry} {p : EntA} (h : EntS e p) : StaS (startE e) := ⟨h.m, h.t, by have := h.r; show e.reason.length ≤ _; omega⟩
theorem has_byte (c : UInt8) (l : List UInt8) : decide (0 ≤ Lib.indexByte l c) = l.contains c := by
  by_cases h : c ∈ l
  · obtain ⟨a, b, rfl, ha⟩ := List.eq_append_cons_of_mem h
    rw [indexByte_mid c a b (fun x hx e => ha (e ▸ hx))]; simp
  · rw [indexByte_no c l (fun x hx e => h (e ▸ hx))]
    simp [h]
theorem eright_any (e : Entry) (p : EntA) (w : World) (hin : EntIn w w.heap.size e p) (hs : EntS e p) :
    Calls Tryd.prog 14 #[.agg (entC e p).toArray] w fun x w' => x = .returned (.bool (rightE e)) ∧ Below w.heap.size w w' := by
  have hu := hs.u
  have hv := hs.v
  have zu : (⟨e.uri.toArray⟩ : ByteArray).size = e.uri.length := size_mk _
  have zv : (⟨e.variant.toArray⟩ : ByteArray).size = e.variant.length := size_mk _
  refine (eright_raw ⟨e.uri.toArray⟩ ⟨e.variant.toArray⟩ ⟨e.method.toArray⟩ ⟨e.target.toArray⟩ ⟨e.reason.toArray⟩ (⟨e.uri.toArray⟩ ++ ⟨#[10]⟩ ++ ⟨e.variant.toArray⟩) p.A1 p.n1 p.c1 p.A2 p.n2 p.c2 p.A3 p.n3 p.c3 e.status e.minor e.asked e.got e.order e.size e.sum
    (e.uri.contains 10) (right6 (startE e)) (faultL e.fields == 0) (named19 e.names && decide (p.n1 ≤ 128)) (placedB e.body e.size) w
    (fun W => (Tryd.strings_Contains_one _ 10 W).mono fun x w' h => ⟨h.1.trans (by rw [has_byte]), h.2.symm⟩)
    (fun W => ekey_any _ _ (by rw [zu]; omega) (by rw [zv]; omega) W)
    (fun W => right6_any (startE e) hs.sta W)
    (fun W hb => fRight_any p.A2 p.n2 p.c2 e.fields W (hin.at_ hb).fields hs.n2 (hs.fields.mono (by omega)))
    (fun W hb => named_any p.A1 p.n1 p.c1 e.names W (hin.at_ hb).names hs.n1 (hs.names.mono (by omega)))
    (fun W hb => placed_any p.A3 p.n3 p.c3 e.body e.size W (hin.at_ hb).body hs.n3 hs.z)).mono ?_
  rintro x w' ⟨rfl, hb⟩
  refine ⟨ret_bool ?_, hb⟩
  have hn1 : e.names.length = p.n1 := by have := hin.names.1; rw [strsV_length] at this; omega
  have zk : ((⟨e.uri.toArray⟩ : ByteArray) ++ ⟨#[10]⟩ ++ ⟨e.variant.toArray⟩).size = e.uri.length + 1 + e.variant.length := by rw [← data_len, append_data, append_data]; simp; omega
  have q1 : decide (((⟨e.uri.toArray⟩ : ByteArray).size : Int) ≤ 100 ∧ (((⟨e.uri.toArray⟩ : ByteArray) ++ ⟨#[10]⟩ ++ ⟨e.variant.toArray⟩).size : Int) ≤ 100) = decide (e.uri.length + 1 + e.variant.length ≤ 100) := by rw [decide_eq_decide, zu, zk]; omega
  have q2 : (faultL e.fields == 0) = decide (faultL e.fields = 0) := beqI _ _
  unfold rightE placedB sumX
  rw [emp_isEmpty, q2, ← q1, hn1]
  have q3 : (e.status != 0) = decide (e.status ≠ 0) := by rw [bne, beqI]; simp
  rw [q3, Bool.eq_iff_iff]
  simp only [Bool.and_eq_true, decide_eq_true_eq, Bool.not_eq_true']
  constructor
  · rintro ⟨⟨⟨⟨⟨⟨a1, a2⟩, a3⟩, a4⟩, ⟨⟨b1, b2⟩, b3⟩, b4, b5⟩, ⟨⟨c1, c2⟩, c3⟩, c4⟩, ⟨d1, d2⟩, d3⟩
    exact ⟨⟨⟨⟨⟨a1, a3⟩, a2, a4⟩, ⟨⟨⟨b1, b2⟩, b3⟩, b4⟩, b5⟩, ⟨⟨c1, c2⟩, c3⟩, c4⟩, ⟨d1, d2⟩, d3⟩
  · rintro ⟨⟨⟨⟨⟨a1, a3⟩, a2, a4⟩, ⟨⟨⟨b1, b2⟩, b3⟩, b4⟩, b5⟩, ⟨⟨c1, c2⟩, c3⟩, c4⟩, ⟨d1, d2⟩, d3⟩
    exact ⟨⟨⟨⟨⟨⟨a1, a2⟩, a3⟩, a4⟩, ⟨⟨b1, b2⟩, b3⟩, b4, b5⟩, ⟨⟨c1, c2⟩, c3⟩, c4⟩, ⟨d1, d2⟩, d3⟩
end Go.Proofs.YtkodeeneljkgeaaDoor
