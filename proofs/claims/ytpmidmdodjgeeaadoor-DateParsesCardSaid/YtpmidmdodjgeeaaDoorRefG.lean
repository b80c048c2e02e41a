/- Walk of layer 2's document: a text's moment. Condition: the text takes at most 10^9 octets. -/
import Derived.Test.YtpmidmdodjgeeaaDoorRefF
import Derived.Test.YtpmidmdodjgeeaaDoorRefC
import Derived.Deep.CutRange
namespace Go.Proofs.YtpmidmdodjgeeaaDoor
open Go.RowKit IH
set_option maxRecDepth 100000
theorem rp0 {l : List UInt8} {n : Int} (h : ref0 l = some n) : refParseL l = (n, 0) := by unfold refParseL; rw [h]
theorem rp2 {l : List UInt8} {n : Int} (h0 : ref0 l = none) (h : ref2 l = some n) : refParseL l = (n, 0) := by unfold refParseL; rw [h0, h]
theorem rp1 {l : List UInt8} (h0 : ref0 l = none) (h2 : ref2 l = none) : refParseL l = ref1 l week7 := by unfold refParseL; rw [h0, h2]
theorem refForm_try (k : Int) (hk : k = 0 ∨ k = 1 ∨ k = 2) {y m d h mi se : Int} (hy : y ≤ 9999) (hm : m ≤ 11) (h0 : 0 ≤ refMoment y m d h mi se) (w : World) :
    Calls Tryd.prog 37 #[.int .i64 (refMoment y m d h mi se), .int .i64 k] w fun e w' => e = .returned (.string ⟨(formC k (refMoment y m d h mi se)).toArray⟩) ∧ Below w.heap.size w w' := by
  have hM := refMoment_inv h0 hy hm
  rw [formC_of hM]
  rcases hk with rfl | rfl | rfl
  · exact refForm0 hM w
  · exact refForm1 hM w
  · exact refForm2 hM w
theorem refNum_le (s : List UInt8) (a b : Nat) (hb : b - a ≤ 4) : -1 ≤ refNum s a b ∧ refNum s a b ≤ 9999 := by
  constructor
  · unfold refNum
    split
    · rename_i h
      have := decV_bd _ h.2
      omega
    · omega
  · rcases Int.lt_or_le (refNum s a b) 0 with h | h
    · omega
    · have h1 := refNum_bd s a b h
      have hk : b - a = 0 ∨ b - a = 1 ∨ b - a = 2 ∨ b - a = 3 ∨ b - a = 4 := by omega
      rcases hk with hk | hk | hk | hk | hk <;> rw [hk] at h1 <;> simp at h1 <;> omega
theorem form_beq (L : List UInt8) (s : ByteArray) : ((⟨L.toArray⟩ : ByteArray).toList == s.toList) = decide (L = s.data.toList) := by
  rw [ByteArray.toList_eq, ByteArray.toList_eq]
  by_cases h : L = s.data.toList
  · simp [h]
  · rw [decide_eq_false h, beq_eq_false_iff_ne]; exact h
theorem week_drop (j : Nat) (hj : j < 7) : week7.drop j = ((j : Int) + 3) % 7 :: week7.drop (j + 1) := by
  have h : j = 0 ∨ j = 1 ∨ j = 2 ∨ j = 3 ∨ j = 4 ∨ j = 5 ∨ j = 6 := by omega
  rcases h with rfl | rfl | rfl | rfl | rfl | rfl | rfl <;> rfl
theorem num_at (s : ByteArray) (hs : s.size ≤ 1000000000) (a b : Nat) (x y : Int) (hx : x = a) (hy : y = b) (hab : a ≤ b) (hb : b ≤ a + 4) (ha : a ≤ 1000) (w : World) :
    Calls Tryd.prog 59 #[.string s, .int .i64 x, .int .i64 y] w fun e w' => e = .returned (.int .i64 (refNum s.data.toList a b)) ∧ w = w' := by
  subst hx hy
  exact refNum_any s a b hab hb ha hs w
theorem find_at (s : ByteArray) (a : Nat) (x : Int) (hx : x = a) (ha : a ≤ 1000) (w : World) :
    Calls Tryd.prog 60 #[.string s, .int .i64 x] w fun e w' => e = .returned (.int .i64 (refFind s.data.toList a)) ∧ Below w.heap.size w w' := by
  subst hx
  exact refFind_any s a ha w
/-- A try: the parts' numbers, the moment, its form: what the walk meets. -/
structure Try (s : ByteArray) (k M : Int) (F : ByteArray) : Prop where
  form : 0 ≤ M → ∀ w, Calls Tryd.prog 37 #[.int .i64 M, .int .i64 k] w fun e w' => e = .returned (.string F) ∧ Below w.heap.size w w'
theorem try_of (s : ByteArray) (k : Int) (hk : k = 0 ∨ k = 1 ∨ k = 2) {y m d h mi se : Int} (hy : y ≤ 9999) (hm : m ≤ 11) : Try s k (refMoment y m d h mi se) ⟨(formC k (refMoment y m d h mi se)).toArray⟩ :=
  ⟨fun h0 w => refForm_try k hk hy hm h0 w⟩

set_option maxHeartbeats 16000000 in
theorem refParse_any (s : ByteArray) (hs : s.size ≤ 1000000000) (w : World) :
    Calls Tryd.prog 32 #[.string s] w fun e w' => e = .returned (.tuple #[.int .i64 (refParseL s.data.toList).1, .int .i64 (refParseL s.data.toList).2]) ∧ Below w.heap.size w w' := by
  have hdl := data_len s
  have Hdl := Lib.hid hdl
  clear hdl
  go_enter Tryd.func32, Tryd.ntmps32
  go_upto_if 13 with fail
  go_cut [0] from 4 to 136 (fun s0 wx => s0 = .string s ∧ ref0 s.data.toList = none ∧ Below w.heap.size w wx)
  case first =>
    by_cases h29 : s.size = 29
    · have bq : ((s.size : Int) == 29) = true := by rw [beq_iff_eq]; omega
      have N1 : ∀ w, Calls Tryd.prog 59 #[.string s, .int .i64 12, .int .i64 16] w fun e w' => e = .returned (.int .i64 (refNum s.data.toList 12 16)) ∧ w = w' := num_at s hs 12 16 _ _ rfl rfl (by omega) (by omega) (by omega)
      have n1 := refNum_le s.data.toList 12 16 (by omega)
      have N2 : ∀ w, Calls Tryd.prog 59 #[.string s, .int .i64 5, .int .i64 7] w fun e w' => e = .returned (.int .i64 (refNum s.data.toList 5 7)) ∧ w = w' := num_at s hs 5 7 _ _ rfl rfl (by omega) (by omega) (by omega)
      have n2 := refNum_le s.data.toList 5 7 (by omega)
      have N3 : ∀ w, Calls Tryd.prog 59 #[.string s, .int .i64 17, .int .i64 19] w fun e w' => e = .returned (.int .i64 (refNum s.data.toList 17 19)) ∧ w = w' := num_at s hs 17 19 _ _ rfl rfl (by omega) (by omega) (by omega)
      have n3 := refNum_le s.data.toList 17 19 (by omega)
      have N4 : ∀ w, Calls Tryd.prog 59 #[.string s, .int .i64 20, .int .i64 22] w fun e w' => e = .returned (.int .i64 (refNum s.data.toList 20 22)) ∧ w = w' := num_at s hs 20 22 _ _ rfl rfl (by omega) (by omega) (by omega)
      have n4 := refNum_le s.data.toList 20 22 (by omega)
      have N5 : ∀ w, Calls Tryd.prog 59 #[.string s, .int .i64 23, .int .i64 25] w fun e w' => e = .returned (.int .i64 (refNum s.data.toList 23 25)) ∧ w = w' := num_at s hs 23 25 _ _ rfl rfl (by omega) (by omega) (by omega)
      have n5 := refNum_le s.data.toList 23 25 (by omega)
      have FI : ∀ w, Calls Tryd.prog 60 #[.string s, .int .i64 8] w fun e w' => e = .returned (.int .i64 (refFind s.data.toList 8)) ∧ Below w.heap.size w w' := find_at s 8 _ rfl (by omega)
      have fb := refFind_bd s.data.toList 8
      have MO := refMoment_any (refNum s.data.toList 12 16) (refFind s.data.toList 8) (refNum s.data.toList 5 7) (refNum s.data.toList 17 19) (refNum s.data.toList 20 22) (refNum s.data.toList 23 25) n1.2 fb
      have FO := fun h0 => refForm_try 0 (.inl rfl) (y := refNum s.data.toList 12 16) (m := refFind s.data.toList 8) (d := refNum s.data.toList 5 7) (h := refNum s.data.toList 17 19) (mi := refNum s.data.toList 20 22) (se := refNum s.data.toList 23 25) n1.2 fb h0
      have R0 : ref0 s.data.toList = if s.data.toList.length = 29 ∧ 0 ≤ refMoment (refNum s.data.toList 12 16) (refFind s.data.toList 8) (refNum s.data.toList 5 7) (refNum s.data.toList 17 19) (refNum s.data.toList 20 22) (refNum s.data.toList 23 25) ∧ formC 0 (refMoment (refNum s.data.toList 12 16) (refFind s.data.toList 8) (refNum s.data.toList 5 7) (refNum s.data.toList 17 19) (refNum s.data.toList 20 22) (refNum s.data.toList 23 25)) = s.data.toList
          then some (refMoment (refNum s.data.toList 12 16) (refFind s.data.toList 8) (refNum s.data.toList 5 7) (refNum s.data.toList 17 19) (refNum s.data.toList 20 22) (refNum s.data.toList 23 25)) else none := rfl
      obtain ⟨M, hM⟩ : ∃ M, refMoment (refNum s.data.toList 12 16) (refFind s.data.toList 8) (refNum s.data.toList 5 7) (refNum s.data.toList 17 19) (refNum s.data.toList 20 22) (refNum s.data.toList 23 25) = M := ⟨_, rfl⟩
      rw [hM] at MO R0
      simp only [hM] at FO
      obtain ⟨F, hF⟩ : ∃ F : ByteArray, (⟨(formC 0 M).toArray⟩ : ByteArray) = F := ⟨_, rfl⟩
      rw [hF] at FO
      clear fb n1 n2 n3 n4 n5
      generalize refNum s.data.toList 12 16 = y1 at *
      generalize refFind s.data.toList 8 = y2 at *
      generalize refNum s.data.toList 5 7 = y3 at *
      generalize refNum s.data.toList 17 19 = y4 at *
      generalize refNum s.data.toList 20 22 = y5 at *
      generalize refNum s.data.toList 23 25 = y6 at *
      replace N1 := Lib.hid N1
      replace N2 := Lib.hid N2
      replace N3 := Lib.hid N3
      replace N4 := Lib.hid N4
      replace N5 := Lib.hid N5
      replace FI := Lib.hid FI
      replace MO := Lib.hid MO
      have HR := Lib.hid R0
      clear R0
      by_cases hM0 : M < 0
      · have hno : ref0 s.data.toList = none := by rw [HR.out, if_neg (fun h => by have := h.2.1; omega)]
        have Hno := Lib.hid hno
        clear hno hM hF FO h29
        go_wp2_with (first
            | (go_at_call 59; (with_reducible refine (N1.out _).mono ?_); rintro e w11 ⟨rfl, rfl⟩)
            | (go_at_call 59; (with_reducible refine (N2.out _).mono ?_); rintro e w12 ⟨rfl, rfl⟩)
            | (go_at_call 59; (with_reducible refine (N3.out _).mono ?_); rintro e w13 ⟨rfl, rfl⟩)
            | (go_at_call 59; (with_reducible refine (N4.out _).mono ?_); rintro e w14 ⟨rfl, rfl⟩)
            | (go_at_call 59; (with_reducible refine (N5.out _).mono ?_); rintro e w15 ⟨rfl, rfl⟩)
            | (go_at_call 60; (with_reducible refine (FI.out _).mono ?_); rintro e w2 ⟨rfl, hb2⟩; have B2 := Lib.hid (below_step (Below.refl _ _) hb2); clear hb2)
            | (go_at_call 58; (with_reducible refine (MO.out _).mono ?_); rintro e w3 ⟨rfl, hb3⟩; have B3 := Lib.hid (below_step B2.out hb3); clear hb3))
        go_meet
        exact ⟨rfl, Hno.out, B3.out⟩
      · have M0 : 0 ≤ M := by omega
        replace FO := Lib.hid (FO M0)
        clear hM0
        by_cases heq : formC 0 M = s.data.toList
        · have hyes : refParseL s.data.toList = (M, 0) := rp0 (by rw [HR.out, if_pos ⟨by rw [Hdl.out]; exact h29, M0, heq⟩])
          have hbq : (F.toList == s.toList) = true := by rw [← hF, form_beq]; exact decide_eq_true heq
          have Hyes := Lib.hid hyes
          clear hyes heq hM hF h29
          go_wp2_with (first
            | (go_at_call 59; (with_reducible refine (N1.out _).mono ?_); rintro e w11 ⟨rfl, rfl⟩)
            | (go_at_call 59; (with_reducible refine (N2.out _).mono ?_); rintro e w12 ⟨rfl, rfl⟩)
            | (go_at_call 59; (with_reducible refine (N3.out _).mono ?_); rintro e w13 ⟨rfl, rfl⟩)
            | (go_at_call 59; (with_reducible refine (N4.out _).mono ?_); rintro e w14 ⟨rfl, rfl⟩)
            | (go_at_call 59; (with_reducible refine (N5.out _).mono ?_); rintro e w15 ⟨rfl, rfl⟩)
            | (go_at_call 60; (with_reducible refine (FI.out _).mono ?_); rintro e w2 ⟨rfl, hb2⟩; have B2 := Lib.hid (below_step (Below.refl _ _) hb2); clear hb2)
            | (go_at_call 58; (with_reducible refine (MO.out _).mono ?_); rintro e w3 ⟨rfl, hb3⟩; have B3 := Lib.hid (below_step B2.out hb3); clear hb3)
            | (go_at_call 37; (with_reducible refine (FO.out _).mono ?_); rintro e w4 ⟨rfl, hb4⟩; have B4 := Lib.hid (below_step B3.out hb4); clear hb4))
          go_ret2
          rw [Hyes.out]
          exact ⟨rfl, B4.out⟩
        · have hno : ref0 s.data.toList = none := by rw [HR.out, if_neg (fun h => heq h.2.2)]
          have hbq : (F.toList == s.toList) = false := by rw [← hF, form_beq]; exact decide_eq_false heq
          have Hno := Lib.hid hno
          clear hno heq hM hF h29
          go_wp2_with (first
            | (go_at_call 59; (with_reducible refine (N1.out _).mono ?_); rintro e w11 ⟨rfl, rfl⟩)
            | (go_at_call 59; (with_reducible refine (N2.out _).mono ?_); rintro e w12 ⟨rfl, rfl⟩)
            | (go_at_call 59; (with_reducible refine (N3.out _).mono ?_); rintro e w13 ⟨rfl, rfl⟩)
            | (go_at_call 59; (with_reducible refine (N4.out _).mono ?_); rintro e w14 ⟨rfl, rfl⟩)
            | (go_at_call 59; (with_reducible refine (N5.out _).mono ?_); rintro e w15 ⟨rfl, rfl⟩)
            | (go_at_call 60; (with_reducible refine (FI.out _).mono ?_); rintro e w2 ⟨rfl, hb2⟩; have B2 := Lib.hid (below_step (Below.refl _ _) hb2); clear hb2)
            | (go_at_call 58; (with_reducible refine (MO.out _).mono ?_); rintro e w3 ⟨rfl, hb3⟩; have B3 := Lib.hid (below_step B2.out hb3); clear hb3)
            | (go_at_call 37; (with_reducible refine (FO.out _).mono ?_); rintro e w4 ⟨rfl, hb4⟩; have B4 := Lib.hid (below_step B3.out hb4); clear hb4))
          go_meet
          exact ⟨rfl, Hno.out, B4.out⟩
    · have bq : ((s.size : Int) == 29) = false := by rw [beq_eq_false_iff_ne]; omega
      have hno : ref0 s.data.toList = none := by unfold ref0; rw [if_neg (fun h => h29 (by rw [← Hdl.out]; exact h.1))]
      have Hno := Lib.hid hno
      clear hno h29
      go_wp2_with fail
      go_meet
      exact ⟨rfl, Hno.out, Below.refl _ _⟩
  case rest =>
    obtain ⟨rfl, hr0, hbel⟩ := hcut
    have HR0 := Lib.hid hr0
    have HB := Lib.hid hbel
    clear hr0 hbel
    go_upto_if 38 with fail
    go_cut [0] from 4 to 136 (fun s0 wx => s0 = .string s ∧ ref2 s.data.toList = none ∧ Below w.heap.size w wx)
    case first =>
      by_cases h24 : s.size = 24
      · have bq : ((s.size : Int) == 24) = true := by rw [beq_iff_eq]; omega
        have h8 : 8 < s.size := by omega
        obtain ⟨c, hc⟩ : ∃ c, s[8]'h8 = c := ⟨_, rfl⟩
        have hg : s.data.toList[8]? = some c := by rw [← hc]; exact get_data s 8 h8
        by_cases h32 : c = 32
        · have ef : from2 s.data.toList = 9 := by unfold from2; rw [hg, h32, if_pos rfl]
          have b32 : ((c.toNat : Int) == 32) = true := by rw [h32]; rfl
          have N1 : ∀ w, Calls Tryd.prog 59 #[.string s, .int .i64 20, .int .i64 24] w fun e w' => e = .returned (.int .i64 (refNum s.data.toList 20 24)) ∧ w = w' := num_at s hs 20 24 _ _ rfl rfl (by omega) (by omega) (by omega)
          have n1 := refNum_le s.data.toList 20 24 (by omega)
          have N2 : ∀ w, Calls Tryd.prog 59 #[.string s, .int .i64 9, .int .i64 10] w fun e w' => e = .returned (.int .i64 (refNum s.data.toList 9 10)) ∧ w = w' := num_at s hs 9 10 _ _ rfl rfl (by omega) (by omega) (by omega)
          have n2 := refNum_le s.data.toList 9 10 (by omega)
          have N3 : ∀ w, Calls Tryd.prog 59 #[.string s, .int .i64 11, .int .i64 13] w fun e w' => e = .returned (.int .i64 (refNum s.data.toList 11 13)) ∧ w = w' := num_at s hs 11 13 _ _ rfl rfl (by omega) (by omega) (by omega)
          have n3 := refNum_le s.data.toList 11 13 (by omega)
          have N4 : ∀ w, Calls Tryd.prog 59 #[.string s, .int .i64 14, .int .i64 16] w fun e w' => e = .returned (.int .i64 (refNum s.data.toList 14 16)) ∧ w = w' := num_at s hs 14 16 _ _ rfl rfl (by omega) (by omega) (by omega)
          have n4 := refNum_le s.data.toList 14 16 (by omega)
          have N5 : ∀ w, Calls Tryd.prog 59 #[.string s, .int .i64 17, .int .i64 19] w fun e w' => e = .returned (.int .i64 (refNum s.data.toList 17 19)) ∧ w = w' := num_at s hs 17 19 _ _ rfl rfl (by omega) (by omega) (by omega)
          have n5 := refNum_le s.data.toList 17 19 (by omega)
          have FI : ∀ w, Calls Tryd.prog 60 #[.string s, .int .i64 4] w fun e w' => e = .returned (.int .i64 (refFind s.data.toList 4)) ∧ Below w.heap.size w w' := find_at s 4 _ rfl (by omega)
          have fb := refFind_bd s.data.toList 4
          have MO := refMoment_any (refNum s.data.toList 20 24) (refFind s.data.toList 4) (refNum s.data.toList 9 10) (refNum s.data.toList 11 13) (refNum s.data.toList 14 16) (refNum s.data.toList 17 19) n1.2 fb
          have FO := fun h0 => refForm_try 2 (.inr (.inr rfl)) (y := refNum s.data.toList 20 24) (m := refFind s.data.toList 4) (d := refNum s.data.toList 9 10) (h := refNum s.data.toList 11 13) (mi := refNum s.data.toList 14 16) (se := refNum s.data.toList 17 19) n1.2 fb h0
          have R0 : ref2 s.data.toList = if s.data.toList.length = 24 ∧ 0 ≤ refMoment (refNum s.data.toList 20 24) (refFind s.data.toList 4) (refNum s.data.toList (from2 s.data.toList) 10) (refNum s.data.toList 11 13) (refNum s.data.toList 14 16) (refNum s.data.toList 17 19) ∧ formC 2 (refMoment (refNum s.data.toList 20 24) (refFind s.data.toList 4) (refNum s.data.toList (from2 s.data.toList) 10) (refNum s.data.toList 11 13) (refNum s.data.toList 14 16) (refNum s.data.toList 17 19)) = s.data.toList then some (refMoment (refNum s.data.toList 20 24) (refFind s.data.toList 4) (refNum s.data.toList (from2 s.data.toList) 10) (refNum s.data.toList 11 13) (refNum s.data.toList 14 16) (refNum s.data.toList 17 19)) else none := rfl
          rw [ef] at R0
          obtain ⟨M, hM⟩ : ∃ M, refMoment (refNum s.data.toList 20 24) (refFind s.data.toList 4) (refNum s.data.toList 9 10) (refNum s.data.toList 11 13) (refNum s.data.toList 14 16) (refNum s.data.toList 17 19) = M := ⟨_, rfl⟩
          rw [hM] at MO R0
          simp only [hM] at FO
          obtain ⟨F, hF⟩ : ∃ F : ByteArray, (⟨(formC 2 M).toArray⟩ : ByteArray) = F := ⟨_, rfl⟩
          rw [hF] at FO
          clear fb n1 n2 n3 n4 n5 ef hg h32
          generalize refNum s.data.toList 20 24 = y1 at *
          generalize refFind s.data.toList 4 = y2 at *
          generalize refNum s.data.toList 9 10 = y3 at *
          generalize refNum s.data.toList 11 13 = y4 at *
          generalize refNum s.data.toList 14 16 = y5 at *
          generalize refNum s.data.toList 17 19 = y6 at *
          replace N1 := Lib.hid N1
          replace N2 := Lib.hid N2
          replace N3 := Lib.hid N3
          replace N4 := Lib.hid N4
          replace N5 := Lib.hid N5
          replace FI := Lib.hid FI
          replace MO := Lib.hid MO
          have HR := Lib.hid R0
          clear R0
          by_cases hM0 : M < 0
          · have hno : ref2 s.data.toList = none := by rw [HR.out, if_neg (fun h => by have := h.2.1; omega)]
            have Hno := Lib.hid hno
            clear hno hM hF FO 
            go_wp2_with (first
                | (go_at_call 59; (with_reducible refine (N1.out _).mono ?_); rintro e w11 ⟨rfl, rfl⟩)
                | (go_at_call 59; (with_reducible refine (N2.out _).mono ?_); rintro e w12 ⟨rfl, rfl⟩)
                | (go_at_call 59; (with_reducible refine (N3.out _).mono ?_); rintro e w13 ⟨rfl, rfl⟩)
                | (go_at_call 59; (with_reducible refine (N4.out _).mono ?_); rintro e w14 ⟨rfl, rfl⟩)
                | (go_at_call 59; (with_reducible refine (N5.out _).mono ?_); rintro e w15 ⟨rfl, rfl⟩)
                | (go_at_call 60; (with_reducible refine (FI.out _).mono ?_); rintro e w2 ⟨rfl, hb2⟩; have B2 := Lib.hid (below_step HB.out hb2); clear hb2)
                | (go_at_call 58; (with_reducible refine (MO.out _).mono ?_); rintro e w3 ⟨rfl, hb3⟩; have B3 := Lib.hid (below_step B2.out hb3); clear hb3))
            go_meet
            exact ⟨rfl, Hno.out, B3.out⟩
          · have M0 : 0 ≤ M := by omega
            replace FO := Lib.hid (FO M0)
            clear hM0
            by_cases heq : formC 2 M = s.data.toList
            · have hyes : refParseL s.data.toList = (M, 0) := rp2 HR0.out (by rw [HR.out, if_pos ⟨by rw [Hdl.out]; exact h24, M0, heq⟩])
              have hbq : (F.toList == s.toList) = true := by rw [← hF, form_beq]; exact decide_eq_true heq
              have Hyes := Lib.hid hyes
              clear hyes heq hM hF 
              go_wp2_with (first
                | (go_at_call 59; (with_reducible refine (N1.out _).mono ?_); rintro e w11 ⟨rfl, rfl⟩)
                | (go_at_call 59; (with_reducible refine (N2.out _).mono ?_); rintro e w12 ⟨rfl, rfl⟩)
                | (go_at_call 59; (with_reducible refine (N3.out _).mono ?_); rintro e w13 ⟨rfl, rfl⟩)
                | (go_at_call 59; (with_reducible refine (N4.out _).mono ?_); rintro e w14 ⟨rfl, rfl⟩)
                | (go_at_call 59; (with_reducible refine (N5.out _).mono ?_); rintro e w15 ⟨rfl, rfl⟩)
                | (go_at_call 60; (with_reducible refine (FI.out _).mono ?_); rintro e w2 ⟨rfl, hb2⟩; have B2 := Lib.hid (below_step HB.out hb2); clear hb2)
                | (go_at_call 58; (with_reducible refine (MO.out _).mono ?_); rintro e w3 ⟨rfl, hb3⟩; have B3 := Lib.hid (below_step B2.out hb3); clear hb3)
                | (go_at_call 37; (with_reducible refine (FO.out _).mono ?_); rintro e w4 ⟨rfl, hb4⟩; have B4 := Lib.hid (below_step B3.out hb4); clear hb4))
              go_ret2
              rw [Hyes.out]
              exact ⟨rfl, B4.out⟩
            · have hno : ref2 s.data.toList = none := by rw [HR.out, if_neg (fun h => heq h.2.2)]
              have hbq : (F.toList == s.toList) = false := by rw [← hF, form_beq]; exact decide_eq_false heq
              have Hno := Lib.hid hno
              clear hno heq hM hF 
              go_wp2_with (first
                | (go_at_call 59; (with_reducible refine (N1.out _).mono ?_); rintro e w11 ⟨rfl, rfl⟩)
                | (go_at_call 59; (with_reducible refine (N2.out _).mono ?_); rintro e w12 ⟨rfl, rfl⟩)
                | (go_at_call 59; (with_reducible refine (N3.out _).mono ?_); rintro e w13 ⟨rfl, rfl⟩)
                | (go_at_call 59; (with_reducible refine (N4.out _).mono ?_); rintro e w14 ⟨rfl, rfl⟩)
                | (go_at_call 59; (with_reducible refine (N5.out _).mono ?_); rintro e w15 ⟨rfl, rfl⟩)
                | (go_at_call 60; (with_reducible refine (FI.out _).mono ?_); rintro e w2 ⟨rfl, hb2⟩; have B2 := Lib.hid (below_step HB.out hb2); clear hb2)
                | (go_at_call 58; (with_reducible refine (MO.out _).mono ?_); rintro e w3 ⟨rfl, hb3⟩; have B3 := Lib.hid (below_step B2.out hb3); clear hb3)
                | (go_at_call 37; (with_reducible refine (FO.out _).mono ?_); rintro e w4 ⟨rfl, hb4⟩; have B4 := Lib.hid (below_step B3.out hb4); clear hb4))
              go_meet
              exact ⟨rfl, Hno.out, B4.out⟩
        · have ef : from2 s.data.toList = 8 := by unfold from2; rw [hg, if_neg (fun h => h32 (Option.some.inj h))]
          have b32 : ((c.toNat : Int) == 32) = false := by rw [beq_eq_false_iff_ne]; intro h; exact h32 (UInt8.toNat_inj.1 (by have e : (32 : UInt8).toNat = 32 := rfl; omega))
          have N1 : ∀ w, Calls Tryd.prog 59 #[.string s, .int .i64 20, .int .i64 24] w fun e w' => e = .returned (.int .i64 (refNum s.data.toList 20 24)) ∧ w = w' := num_at s hs 20 24 _ _ rfl rfl (by omega) (by omega) (by omega)
          have n1 := refNum_le s.data.toList 20 24 (by omega)
          have N2 : ∀ w, Calls Tryd.prog 59 #[.string s, .int .i64 8, .int .i64 10] w fun e w' => e = .returned (.int .i64 (refNum s.data.toList 8 10)) ∧ w = w' := num_at s hs 8 10 _ _ rfl rfl (by omega) (by omega) (by omega)
          have n2 := refNum_le s.data.toList 8 10 (by omega)
          have N3 : ∀ w, Calls Tryd.prog 59 #[.string s, .int .i64 11, .int .i64 13] w fun e w' => e = .returned (.int .i64 (refNum s.data.toList 11 13)) ∧ w = w' := num_at s hs 11 13 _ _ rfl rfl (by omega) (by omega) (by omega)
          have n3 := refNum_le s.data.toList 11 13 (by omega)
          have N4 : ∀ w, Calls Tryd.prog 59 #[.string s, .int .i64 14, .int .i64 16] w fun e w' => e = .returned (.int .i64 (refNum s.data.toList 14 16)) ∧ w = w' := num_at s hs 14 16 _ _ rfl rfl (by omega) (by omega) (by omega)
          have n4 := refNum_le s.data.toList 14 16 (by omega)
          have N5 : ∀ w, Calls Tryd.prog 59 #[.string s, .int .i64 17, .int .i64 19] w fun e w' => e = .returned (.int .i64 (refNum s.data.toList 17 19)) ∧ w = w' := num_at s hs 17 19 _ _ rfl rfl (by omega) (by omega) (by omega)
          have n5 := refNum_le s.data.toList 17 19 (by omega)
          have FI : ∀ w, Calls Tryd.prog 60 #[.string s, .int .i64 4] w fun e w' => e = .returned (.int .i64 (refFind s.data.toList 4)) ∧ Below w.heap.size w w' := find_at s 4 _ rfl (by omega)
          have fb := refFind_bd s.data.toList 4
          have MO := refMoment_any (refNum s.data.toList 20 24) (refFind s.data.toList 4) (refNum s.data.toList 8 10) (refNum s.data.toList 11 13) (refNum s.data.toList 14 16) (refNum s.data.toList 17 19) n1.2 fb
          have FO := fun h0 => refForm_try 2 (.inr (.inr rfl)) (y := refNum s.data.toList 20 24) (m := refFind s.data.toList 4) (d := refNum s.data.toList 8 10) (h := refNum s.data.toList 11 13) (mi := refNum s.data.toList 14 16) (se := refNum s.data.toList 17 19) n1.2 fb h0
          have R0 : ref2 s.data.toList = if s.data.toList.length = 24 ∧ 0 ≤ refMoment (refNum s.data.toList 20 24) (refFind s.data.toList 4) (refNum s.data.toList (from2 s.data.toList) 10) (refNum s.data.toList 11 13) (refNum s.data.toList 14 16) (refNum s.data.toList 17 19) ∧ formC 2 (refMoment (refNum s.data.toList 20 24) (refFind s.data.toList 4) (refNum s.data.toList (from2 s.data.toList) 10) (refNum s.data.toList 11 13) (refNum s.data.toList 14 16) (refNum s.data.toList 17 19)) = s.data.toList then some (refMoment (refNum s.data.toList 20 24) (refFind s.data.toList 4) (refNum s.data.toList (from2 s.data.toList) 10) (refNum s.data.toList 11 13) (refNum s.data.toList 14 16) (refNum s.data.toList 17 19)) else none := rfl
          rw [ef] at R0
          obtain ⟨M, hM⟩ : ∃ M, refMoment (refNum s.data.toList 20 24) (refFind s.data.toList 4) (refNum s.data.toList 8 10) (refNum s.data.toList 11 13) (refNum s.data.toList 14 16) (refNum s.data.toList 17 19) = M := ⟨_, rfl⟩
          rw [hM] at MO R0
          simp only [hM] at FO
          obtain ⟨F, hF⟩ : ∃ F : ByteArray, (⟨(formC 2 M).toArray⟩ : ByteArray) = F := ⟨_, rfl⟩
          rw [hF] at FO
          clear fb n1 n2 n3 n4 n5 ef hg h32
          generalize refNum s.data.toList 20 24 = y1 at *
          generalize refFind s.data.toList 4 = y2 at *
          generalize refNum s.data.toList 8 10 = y3 at *
          generalize refNum s.data.toList 11 13 = y4 at *
          generalize refNum s.data.toList 14 16 = y5 at *
          generalize refNum s.data.toList 17 19 = y6 at *
          replace N1 := Lib.hid N1
          replace N2 := Lib.hid N2
          replace N3 := Lib.hid N3
          replace N4 := Lib.hid N4
          replace N5 := Lib.hid N5
          replace FI := Lib.hid FI
          replace MO := Lib.hid MO
          have HR := Lib.hid R0
          clear R0
          by_cases hM0 : M < 0
          · have hno : ref2 s.data.toList = none := by rw [HR.out, if_neg (fun h => by have := h.2.1; omega)]
            have Hno := Lib.hid hno
            clear hno hM hF FO 
            go_wp2_with (first
                | (go_at_call 59; (with_reducible refine (N1.out _).mono ?_); rintro e w11 ⟨rfl, rfl⟩)
                | (go_at_call 59; (with_reducible refine (N2.out _).mono ?_); rintro e w12 ⟨rfl, rfl⟩)
                | (go_at_call 59; (with_reducible refine (N3.out _).mono ?_); rintro e w13 ⟨rfl, rfl⟩)
                | (go_at_call 59; (with_reducible refine (N4.out _).mono ?_); rintro e w14 ⟨rfl, rfl⟩)
                | (go_at_call 59; (with_reducible refine (N5.out _).mono ?_); rintro e w15 ⟨rfl, rfl⟩)
                | (go_at_call 60; (with_reducible refine (FI.out _).mono ?_); rintro e w2 ⟨rfl, hb2⟩; have B2 := Lib.hid (below_step HB.out hb2); clear hb2)
                | (go_at_call 58; (with_reducible refine (MO.out _).mono ?_); rintro e w3 ⟨rfl, hb3⟩; have B3 := Lib.hid (below_step B2.out hb3); clear hb3))
            go_meet
            exact ⟨rfl, Hno.out, B3.out⟩
          · have M0 : 0 ≤ M := by omega
            replace FO := Lib.hid (FO M0)
            clear hM0
            by_cases heq : formC 2 M = s.data.toList
            · have hyes : refParseL s.data.toList = (M, 0) := rp2 HR0.out (by rw [HR.out, if_pos ⟨by rw [Hdl.out]; exact h24, M0, heq⟩])
              have hbq : (F.toList == s.toList) = true := by rw [← hF, form_beq]; exact decide_eq_true heq
              have Hyes := Lib.hid hyes
              clear hyes heq hM hF 
              go_wp2_with (first
                | (go_at_call 59; (with_reducible refine (N1.out _).mono ?_); rintro e w11 ⟨rfl, rfl⟩)
                | (go_at_call 59; (with_reducible refine (N2.out _).mono ?_); rintro e w12 ⟨rfl, rfl⟩)
                | (go_at_call 59; (with_reducible refine (N3.out _).mono ?_); rintro e w13 ⟨rfl, rfl⟩)
                | (go_at_call 59; (with_reducible refine (N4.out _).mono ?_); rintro e w14 ⟨rfl, rfl⟩)
                | (go_at_call 59; (with_reducible refine (N5.out _).mono ?_); rintro e w15 ⟨rfl, rfl⟩)
                | (go_at_call 60; (with_reducible refine (FI.out _).mono ?_); rintro e w2 ⟨rfl, hb2⟩; have B2 := Lib.hid (below_step HB.out hb2); clear hb2)
                | (go_at_call 58; (with_reducible refine (MO.out _).mono ?_); rintro e w3 ⟨rfl, hb3⟩; have B3 := Lib.hid (below_step B2.out hb3); clear hb3)
                | (go_at_call 37; (with_reducible refine (FO.out _).mono ?_); rintro e w4 ⟨rfl, hb4⟩; have B4 := Lib.hid (below_step B3.out hb4); clear hb4))
              go_ret2
              rw [Hyes.out]
              exact ⟨rfl, B4.out⟩
            · have hno : ref2 s.data.toList = none := by rw [HR.out, if_neg (fun h => heq h.2.2)]
              have hbq : (F.toList == s.toList) = false := by rw [← hF, form_beq]; exact decide_eq_false heq
              have Hno := Lib.hid hno
              clear hno heq hM hF 
              go_wp2_with (first
                | (go_at_call 59; (with_reducible refine (N1.out _).mono ?_); rintro e w11 ⟨rfl, rfl⟩)
                | (go_at_call 59; (with_reducible refine (N2.out _).mono ?_); rintro e w12 ⟨rfl, rfl⟩)
                | (go_at_call 59; (with_reducible refine (N3.out _).mono ?_); rintro e w13 ⟨rfl, rfl⟩)
                | (go_at_call 59; (with_reducible refine (N4.out _).mono ?_); rintro e w14 ⟨rfl, rfl⟩)
                | (go_at_call 59; (with_reducible refine (N5.out _).mono ?_); rintro e w15 ⟨rfl, rfl⟩)
                | (go_at_call 60; (with_reducible refine (FI.out _).mono ?_); rintro e w2 ⟨rfl, hb2⟩; have B2 := Lib.hid (below_step HB.out hb2); clear hb2)
                | (go_at_call 58; (with_reducible refine (MO.out _).mono ?_); rintro e w3 ⟨rfl, hb3⟩; have B3 := Lib.hid (below_step B2.out hb3); clear hb3)
                | (go_at_call 37; (with_reducible refine (FO.out _).mono ?_); rintro e w4 ⟨rfl, hb4⟩; have B4 := Lib.hid (below_step B3.out hb4); clear hb4))
              go_meet
              exact ⟨rfl, Hno.out, B4.out⟩
      · have bq : ((s.size : Int) == 24) = false := by rw [beq_eq_false_iff_ne]; omega
        have hno : ref2 s.data.toList = none := by unfold ref2; rw [if_neg (fun h => h24 (by rw [← Hdl.out]; exact h.1))]
        have Hno := Lib.hid hno
        clear hno h24
        go_wp2_with fail
        go_meet
        exact ⟨rfl, Hno.out, HB.out⟩
    case rest =>
      clear HB
      obtain ⟨rfl, hr2, hbel⟩ := hcut
      have HP := Lib.hid (rp1 HR0.out hr2)
      clear hr2 HR0
      go_wp2
      go_loopw [7] (fun i wr => ∃ j : Nat, j ≤ 7 ∧ i = .int .i64 j ∧ refParseL s.data.toList = ref1 s.data.toList (week7.drop j) ∧ Below w.heap.size w wr) (fun i _ => 7 - (intOf i).toNat)
      case atStart => exact ⟨0, by omega, rfl, HP.out, hbel⟩
      case round =>
        clear HP hbel
        obtain ⟨j, hj, rfl, hp, hbel⟩ := hrel
        by_cases hlt : j < 7
        · have hw := week_drop j hlt
          have DY := refDay_any (j : Int) (by omega) (by omega)
          have hlen := dayN_len7 (((j : Int) + 3) % 7) (by omega) (by omega)
          rw [hw, ref1] at hp
          obtain ⟨D, hD⟩ : ∃ D, dayN (((j : Int) + 3) % 7) = D := ⟨_, rfl⟩
          rw [hD] at hp DY hlen
          obtain ⟨N, hN⟩ : ∃ N : ByteArray, (⟨D.toArray⟩ : ByteArray) = N := ⟨_, rfl⟩
          have hNs : N.size = D.length := by rw [← hN, size_mk]
          have hNd : N.data.toList = D := by rw [← hN]
          rw [hN] at DY
          replace DY := Lib.hid DY
          obtain ⟨K, hK⟩ : ∃ K, D.length = K := ⟨_, rfl⟩
          rw [hK] at hp hlen hNs
          obtain ⟨k0, k1⟩ := hlen
          obtain ⟨X, hX⟩ : ∃ X, ref1 s.data.toList (week7.drop (j + 1)) = X := ⟨_, rfl⟩
          rw [hX] at hp
          have HX := Lib.hid hX
          have hsz : N.size ≤ 9 := by omega
          obtain ⟨kI, hkI⟩ : ∃ kI : Nat, N.size = kI := ⟨_, rfl⟩
          have HB := Lib.hid hbel
          have iw : IntKind.i64.wrap ((N.size : Int) + 24) = (N.size : Int) + 24 := IntWalk.i64_in _ ⟨by omega, by omega⟩
          rw [← hNs] at hp k0 k1
          clear hw hD hN hK hNs hX hbel hkI kI
          by_cases h1 : s.size = N.size + 24
          · have b1 : ((s.size : Int) != (N.size : Int) + 24) = false := by rw [bne, Bool.not_eq_false', beq_iff_eq]; omega
            have b2 : (s.size : Int) = (N.size : Int) + 24 := by omega
            have i1 : (N.size : Int) ≤ (s.size : Int) := by omega
            have i2 : (0 : Int) ≤ (N.size : Int) := by omega
            have et := take_data s N.size (by omega)
            by_cases h2 : s.data.toList.take N.size = D
            · rw [if_pos ⟨by rw [Hdl.out]; exact h1, h2⟩] at hp
              have b3 : ((s.extract 0 N.size).toList == N.toList) = true := by rw [ByteArray.toList_eq, ByteArray.toList_eq, et, h2, hNd, beq_self_eq_true]
              have Hp := Lib.hid hp
              have Hb3 := Lib.hid b3
              have Hb1 := Lib.hid b1
              have Hb2 := Lib.hid b2
              have Hiw := Lib.hid iw
              have Hh1 := Lib.hid h1
              clear hp h2 et hNd b3 h1 b1 b2 iw

              have N1 : ∀ w, Calls Tryd.prog 59 #[.string s, .int .i64 ((N.size : Int) + 9), .int .i64 ((N.size : Int) + 11)] w fun e w' => e = .returned (.int .i64 (refNum s.data.toList (N.size + 9) (N.size + 11))) ∧ w = w' := num_at s hs (N.size + 9) (N.size + 11) _ _ (by omega) (by omega) (by omega) (by omega) (by omega)
              have n1 := refNum_le s.data.toList (N.size + 9) (N.size + 11) (by omega)
              have N2 : ∀ w, Calls Tryd.prog 59 #[.string s, .int .i64 ((N.size : Int) + 2), .int .i64 ((N.size : Int) + 4)] w fun e w' => e = .returned (.int .i64 (refNum s.data.toList (N.size + 2) (N.size + 4))) ∧ w = w' := num_at s hs (N.size + 2) (N.size + 4) _ _ (by omega) (by omega) (by omega) (by omega) (by omega)
              have n2 := refNum_le s.data.toList (N.size + 2) (N.size + 4) (by omega)
              have N3 : ∀ w, Calls Tryd.prog 59 #[.string s, .int .i64 ((N.size : Int) + 12), .int .i64 ((N.size : Int) + 14)] w fun e w' => e = .returned (.int .i64 (refNum s.data.toList (N.size + 12) (N.size + 14))) ∧ w = w' := num_at s hs (N.size + 12) (N.size + 14) _ _ (by omega) (by omega) (by omega) (by omega) (by omega)
              have n3 := refNum_le s.data.toList (N.size + 12) (N.size + 14) (by omega)
              have N4 : ∀ w, Calls Tryd.prog 59 #[.string s, .int .i64 ((N.size : Int) + 15), .int .i64 ((N.size : Int) + 17)] w fun e w' => e = .returned (.int .i64 (refNum s.data.toList (N.size + 15) (N.size + 17))) ∧ w = w' := num_at s hs (N.size + 15) (N.size + 17) _ _ (by omega) (by omega) (by omega) (by omega) (by omega)
              have n4 := refNum_le s.data.toList (N.size + 15) (N.size + 17) (by omega)
              have N5 : ∀ w, Calls Tryd.prog 59 #[.string s, .int .i64 ((N.size : Int) + 18), .int .i64 ((N.size : Int) + 20)] w fun e w' => e = .returned (.int .i64 (refNum s.data.toList (N.size + 18) (N.size + 20))) ∧ w = w' := num_at s hs (N.size + 18) (N.size + 20) _ _ (by omega) (by omega) (by omega) (by omega) (by omega)
              have n5 := refNum_le s.data.toList (N.size + 18) (N.size + 20) (by omega)
              have FI : ∀ w, Calls Tryd.prog 60 #[.string s, .int .i64 ((N.size : Int) + 5)] w fun e w' => e = .returned (.int .i64 (refFind s.data.toList (N.size + 5))) ∧ Below w.heap.size w w' := find_at s (N.size + 5) _ (by omega) (by omega)
              have fb := refFind_bd s.data.toList (N.size + 5)
              have yb : 0 ≤ refNum s.data.toList (N.size + 9) (N.size + 11) → refNum s.data.toList (N.size + 9) (N.size + 11) ≤ 99 := fun h => by
                have h1 := refNum_bd s.data.toList _ _ h
                rw [show N.size + 11 - (N.size + 9) = 2 by omega] at h1
                simp at h1
                omega
              have hp := Hp.out
              unfold mom1 at hp
              clear Hp n1 n2 n3 n4 n5
              generalize refNum s.data.toList (N.size + 9) (N.size + 11) = y1 at *
              generalize refFind s.data.toList (N.size + 5) = y2 at *
              generalize refNum s.data.toList (N.size + 2) (N.size + 4) = y3 at *
              generalize refNum s.data.toList (N.size + 12) (N.size + 14) = y4 at *
              generalize refNum s.data.toList (N.size + 15) (N.size + 17) = y5 at *
              generalize refNum s.data.toList (N.size + 18) (N.size + 20) = y6 at *
              replace N1 := Lib.hid N1
              replace N2 := Lib.hid N2
              replace N3 := Lib.hid N3
              replace N4 := Lib.hid N4
              replace N5 := Lib.hid N5
              replace FI := Lib.hid FI
              have Hp := Lib.hid hp
              clear hp
              go_upto_region 16 with (go_at_call 61; (with_reducible refine (DY.out _).mono ?_); rintro e w6 ⟨rfl, hb6⟩; have B6 := Lib.hid (below_step HB.out hb6); clear hb6)
              have b3 := Hb3.out
              have b1 := Hb1.out
              have iw := Hiw.out
              refine wp_region_plan (fun w' => Below w.heap.size w w') [(0, true), (1, true), (2, true), (3, true), (4, true), (5, true), (6, true), (7, true), (8, true), (9, true), (10, false), (11, true), (12, true)] (by kernel_rfl) (by kernel_rfl) rfl (by kernel_rfl) (below_drewN B6.out 1) ?_
              intro w1 hH
              iterate 10
                refine plan_take (v := ?_) rfl (by rfl) ?_ ?_
                rotate_left
                · intro w2 hSw
                  clear hSw
                  go_simp
                  try with_reducible rfl
                try simp only [Act.put, List.setIfInBounds_toArray, List.set_cons_zero, List.set_cons_succ]
              refine plan_move rfl (by rfl) (fun K hK => ?_)
              go_simp
              (with_reducible refine (DY.out _).mono ?_)
              rintro e w7 ⟨rfl, hb2⟩
              refine hK.out _ _ (below_step hH.out hb2) ?_
              clear hH hK hb2 K
              intro hH
              try simp only [Act.put, List.setIfInBounds_toArray, List.set_cons_zero, List.set_cons_succ]
              iterate 2
                refine plan_take (v := ?_) rfl (by rfl) ?_ ?_
                rotate_left
                · intro w2 hSw
                  clear hSw
                  go_simp
                  try with_reducible rfl
                try simp only [Act.put, List.setIfInBounds_toArray, List.set_cons_zero, List.set_cons_succ]
              refine plan_done ?_
              have HB7 := Lib.hid hH.out
              have b4 := Hb3.out
              clear b3 b1 iw hH i1 i2
              by_cases hy0 : y1 < 0
              · have hp := Hp.out
                rw [if_pos hy0] at hp
                have Hno := Lib.hid hp
                clear hp
                go_wp2_with (go_at_call 59; (with_reducible refine (N1.out _).mono ?_); rintro e w11 ⟨rfl, rfl⟩)
                go_ret2
                rw [Hno.out]
                exact ⟨rfl, HB7.out⟩
              · have hp := Hp.out
                rw [if_neg hy0] at hp
                have y99 := yb (by omega)
                clear Hp yb
                by_cases h70 : y1 < 70
                · have ey : year1 y1 = y1 + 100 + 1900 := by unfold year1; rw [if_pos h70]
                  rw [ey] at hp
                  have MO := refMoment_any (y1 + 100 + 1900) y2 y3 y4 y5 y6 (by omega) fb
                  have FO := fun h0 => refForm_try 1 (.inr (.inl rfl)) (y := y1 + 100 + 1900) (m := y2) (d := y3) (h := y4) (mi := y5) (se := y6) (by omega) fb h0
                  obtain ⟨M, hM⟩ : ∃ M, refMoment (y1 + 100 + 1900) y2 y3 y4 y5 y6 = M := ⟨_, rfl⟩
                  rw [hM] at MO hp
                  simp only [hM] at FO
                  obtain ⟨F, hF⟩ : ∃ F : ByteArray, (⟨(formC 1 M).toArray⟩ : ByteArray) = F := ⟨_, rfl⟩
                  rw [hF] at FO
                  replace MO := Lib.hid MO
                  have HQ := Lib.hid hp
                  clear hp ey fb
                  by_cases hM0 : M < 0
                  · have hno : refParseL s.data.toList = X := by rw [HQ.out, if_neg (fun h => by have := h.1; omega)]
                    have Hno := Lib.hid hno
                    clear hno hM hF FO 
                    go_wp2_with (first
                        | (go_at_call 59; (with_reducible refine (N1.out _).mono ?_); rintro e w11 ⟨rfl, rfl⟩)
                        | (go_at_call 59; (with_reducible refine (N2.out _).mono ?_); rintro e w12 ⟨rfl, rfl⟩)
                        | (go_at_call 59; (with_reducible refine (N3.out _).mono ?_); rintro e w13 ⟨rfl, rfl⟩)
                        | (go_at_call 59; (with_reducible refine (N4.out _).mono ?_); rintro e w14 ⟨rfl, rfl⟩)
                        | (go_at_call 59; (with_reducible refine (N5.out _).mono ?_); rintro e w15 ⟨rfl, rfl⟩)
                        | (go_at_call 60; (with_reducible refine (FI.out _).mono ?_); rintro e w2 ⟨rfl, hb2⟩; have B2 := Lib.hid (below_step HB7.out hb2); clear hb2)
                        | (go_at_call 58; (with_reducible refine (MO.out _).mono ?_); rintro e w3 ⟨rfl, hb3⟩; have B3 := Lib.hid (below_step B2.out hb3); clear hb3))
                    go_roundw
                    case rel => exact ⟨j + 1, by omega, by go_num, by rw [HX.out]; exact Hno.out, B3.out⟩
                    case measure => simp [intOf]; omega
                  · have M0 : 0 ≤ M := by omega
                    replace FO := Lib.hid (FO M0)
                    clear hM0
                    by_cases heq : formC 1 M = s.data.toList
                    · have hyes : refParseL s.data.toList = (M, 0) := by rw [HQ.out, if_pos ⟨M0, heq⟩]
                      have hbq : (F.toList == s.toList) = true := by rw [← hF, form_beq]; exact decide_eq_true heq
                      have Hyes := Lib.hid hyes
                      clear hyes heq hM hF 
                      go_wp2_with (first
                        | (go_at_call 59; (with_reducible refine (N1.out _).mono ?_); rintro e w11 ⟨rfl, rfl⟩)
                        | (go_at_call 59; (with_reducible refine (N2.out _).mono ?_); rintro e w12 ⟨rfl, rfl⟩)
                        | (go_at_call 59; (with_reducible refine (N3.out _).mono ?_); rintro e w13 ⟨rfl, rfl⟩)
                        | (go_at_call 59; (with_reducible refine (N4.out _).mono ?_); rintro e w14 ⟨rfl, rfl⟩)
                        | (go_at_call 59; (with_reducible refine (N5.out _).mono ?_); rintro e w15 ⟨rfl, rfl⟩)
                        | (go_at_call 60; (with_reducible refine (FI.out _).mono ?_); rintro e w2 ⟨rfl, hb2⟩; have B2 := Lib.hid (below_step HB7.out hb2); clear hb2)
                        | (go_at_call 58; (with_reducible refine (MO.out _).mono ?_); rintro e w3 ⟨rfl, hb3⟩; have B3 := Lib.hid (below_step B2.out hb3); clear hb3)
                        | (go_at_call 37; (with_reducible refine (FO.out _).mono ?_); rintro e w4 ⟨rfl, hb4⟩; have B4 := Lib.hid (below_step B3.out hb4); clear hb4))
                      go_ret2
                      rw [Hyes.out]
                      exact ⟨rfl, B4.out⟩
                    · have hno : refParseL s.data.toList = X := by rw [HQ.out, if_neg (fun h => heq h.2)]
                      have hbq : (F.toList == s.toList) = false := by rw [← hF, form_beq]; exact decide_eq_false heq
                      have Hno := Lib.hid hno
                      clear hno heq hM hF 
                      go_wp2_with (first
                        | (go_at_call 59; (with_reducible refine (N1.out _).mono ?_); rintro e w11 ⟨rfl, rfl⟩)
                        | (go_at_call 59; (with_reducible refine (N2.out _).mono ?_); rintro e w12 ⟨rfl, rfl⟩)
                        | (go_at_call 59; (with_reducible refine (N3.out _).mono ?_); rintro e w13 ⟨rfl, rfl⟩)
                        | (go_at_call 59; (with_reducible refine (N4.out _).mono ?_); rintro e w14 ⟨rfl, rfl⟩)
                        | (go_at_call 59; (with_reducible refine (N5.out _).mono ?_); rintro e w15 ⟨rfl, rfl⟩)
                        | (go_at_call 60; (with_reducible refine (FI.out _).mono ?_); rintro e w2 ⟨rfl, hb2⟩; have B2 := Lib.hid (below_step HB7.out hb2); clear hb2)
                        | (go_at_call 58; (with_reducible refine (MO.out _).mono ?_); rintro e w3 ⟨rfl, hb3⟩; have B3 := Lib.hid (below_step B2.out hb3); clear hb3)
                        | (go_at_call 37; (with_reducible refine (FO.out _).mono ?_); rintro e w4 ⟨rfl, hb4⟩; have B4 := Lib.hid (below_step B3.out hb4); clear hb4))
                      go_roundw
                      case rel => exact ⟨j + 1, by omega, by go_num, by rw [HX.out]; exact Hno.out, B4.out⟩
                      case measure => simp [intOf]; omega
                · have ey : year1 y1 = y1 + 1900 := by unfold year1; rw [if_neg h70]
                  rw [ey] at hp
                  have MO := refMoment_any (y1 + 1900) y2 y3 y4 y5 y6 (by omega) fb
                  have FO := fun h0 => refForm_try 1 (.inr (.inl rfl)) (y := y1 + 1900) (m := y2) (d := y3) (h := y4) (mi := y5) (se := y6) (by omega) fb h0
                  obtain ⟨M, hM⟩ : ∃ M, refMoment (y1 + 1900) y2 y3 y4 y5 y6 = M := ⟨_, rfl⟩
                  rw [hM] at MO hp
                  simp only [hM] at FO
                  obtain ⟨F, hF⟩ : ∃ F : ByteArray, (⟨(formC 1 M).toArray⟩ : ByteArray) = F := ⟨_, rfl⟩
                  rw [hF] at FO
                  replace MO := Lib.hid MO
                  have HQ := Lib.hid hp
                  clear hp ey fb
                  by_cases hM0 : M < 0
                  · have hno : refParseL s.data.toList = X := by rw [HQ.out, if_neg (fun h => by have := h.1; omega)]
                    have Hno := Lib.hid hno
                    clear hno hM hF FO 
                    go_wp2_with (first
                        | (go_at_call 59; (with_reducible refine (N1.out _).mono ?_); rintro e w11 ⟨rfl, rfl⟩)
                        | (go_at_call 59; (with_reducible refine (N2.out _).mono ?_); rintro e w12 ⟨rfl, rfl⟩)
                        | (go_at_call 59; (with_reducible refine (N3.out _).mono ?_); rintro e w13 ⟨rfl, rfl⟩)
                        | (go_at_call 59; (with_reducible refine (N4.out _).mono ?_); rintro e w14 ⟨rfl, rfl⟩)
                        | (go_at_call 59; (with_reducible refine (N5.out _).mono ?_); rintro e w15 ⟨rfl, rfl⟩)
                        | (go_at_call 60; (with_reducible refine (FI.out _).mono ?_); rintro e w2 ⟨rfl, hb2⟩; have B2 := Lib.hid (below_step HB7.out hb2); clear hb2)
                        | (go_at_call 58; (with_reducible refine (MO.out _).mono ?_); rintro e w3 ⟨rfl, hb3⟩; have B3 := Lib.hid (below_step B2.out hb3); clear hb3))
                    go_roundw
                    case rel => exact ⟨j + 1, by omega, by go_num, by rw [HX.out]; exact Hno.out, B3.out⟩
                    case measure => simp [intOf]; omega
                  · have M0 : 0 ≤ M := by omega
                    replace FO := Lib.hid (FO M0)
                    clear hM0
                    by_cases heq : formC 1 M = s.data.toList
                    · have hyes : refParseL s.data.toList = (M, 0) := by rw [HQ.out, if_pos ⟨M0, heq⟩]
                      have hbq : (F.toList == s.toList) = true := by rw [← hF, form_beq]; exact decide_eq_true heq
                      have Hyes := Lib.hid hyes
                      clear hyes heq hM hF 
                      go_wp2_with (first
                        | (go_at_call 59; (with_reducible refine (N1.out _).mono ?_); rintro e w11 ⟨rfl, rfl⟩)
                        | (go_at_call 59; (with_reducible refine (N2.out _).mono ?_); rintro e w12 ⟨rfl, rfl⟩)
                        | (go_at_call 59; (with_reducible refine (N3.out _).mono ?_); rintro e w13 ⟨rfl, rfl⟩)
                        | (go_at_call 59; (with_reducible refine (N4.out _).mono ?_); rintro e w14 ⟨rfl, rfl⟩)
                        | (go_at_call 59; (with_reducible refine (N5.out _).mono ?_); rintro e w15 ⟨rfl, rfl⟩)
                        | (go_at_call 60; (with_reducible refine (FI.out _).mono ?_); rintro e w2 ⟨rfl, hb2⟩; have B2 := Lib.hid (below_step HB7.out hb2); clear hb2)
                        | (go_at_call 58; (with_reducible refine (MO.out _).mono ?_); rintro e w3 ⟨rfl, hb3⟩; have B3 := Lib.hid (below_step B2.out hb3); clear hb3)
                        | (go_at_call 37; (with_reducible refine (FO.out _).mono ?_); rintro e w4 ⟨rfl, hb4⟩; have B4 := Lib.hid (below_step B3.out hb4); clear hb4))
                      go_ret2
                      rw [Hyes.out]
                      exact ⟨rfl, B4.out⟩
                    · have hno : refParseL s.data.toList = X := by rw [HQ.out, if_neg (fun h => heq h.2)]
                      have hbq : (F.toList == s.toList) = false := by rw [← hF, form_beq]; exact decide_eq_false heq
                      have Hno := Lib.hid hno
                      clear hno heq hM hF 
                      go_wp2_with (first
                        | (go_at_call 59; (with_reducible refine (N1.out _).mono ?_); rintro e w11 ⟨rfl, rfl⟩)
                        | (go_at_call 59; (with_reducible refine (N2.out _).mono ?_); rintro e w12 ⟨rfl, rfl⟩)
                        | (go_at_call 59; (with_reducible refine (N3.out _).mono ?_); rintro e w13 ⟨rfl, rfl⟩)
                        | (go_at_call 59; (with_reducible refine (N4.out _).mono ?_); rintro e w14 ⟨rfl, rfl⟩)
                        | (go_at_call 59; (with_reducible refine (N5.out _).mono ?_); rintro e w15 ⟨rfl, rfl⟩)
                        | (go_at_call 60; (with_reducible refine (FI.out _).mono ?_); rintro e w2 ⟨rfl, hb2⟩; have B2 := Lib.hid (below_step HB7.out hb2); clear hb2)
                        | (go_at_call 58; (with_reducible refine (MO.out _).mono ?_); rintro e w3 ⟨rfl, hb3⟩; have B3 := Lib.hid (below_step B2.out hb3); clear hb3)
                        | (go_at_call 37; (with_reducible refine (FO.out _).mono ?_); rintro e w4 ⟨rfl, hb4⟩; have B4 := Lib.hid (below_step B3.out hb4); clear hb4))
                      go_roundw
                      case rel => exact ⟨j + 1, by omega, by go_num, by rw [HX.out]; exact Hno.out, B4.out⟩
                      case measure => simp [intOf]; omega
            · rw [if_neg (fun h => h2 h.2)] at hp
              have b3 : ((s.extract 0 N.size).toList == N.toList) = false := by
                rw [ByteArray.toList_eq, ByteArray.toList_eq, et, hNd, beq_eq_false_iff_ne]; exact h2
              have Hp := Lib.hid hp
              clear hp h2 et hNd h1 b2
              have Hb3 := Lib.hid b3
              have Hb1 := Lib.hid b1
              have Hiw := Lib.hid iw
              clear b3 b1 iw
              go_upto_region 16 with (go_at_call 61; (with_reducible refine (DY.out _).mono ?_); rintro e w6 ⟨rfl, hb6⟩; have B6 := Lib.hid (below_step HB.out hb6); clear hb6)
              have b3 := Hb3.out
              have b1 := Hb1.out
              have iw := Hiw.out
              refine wp_region_plan (fun w' => Below w.heap.size w w') [(0, true), (1, true), (2, true), (3, true), (4, true), (5, true), (6, true), (7, true), (8, true), (9, true), (10, false), (11, true), (12, true)] (by kernel_rfl) (by kernel_rfl) rfl (by kernel_rfl) (below_drewN B6.out 1) ?_
              intro w1 hH
              iterate 10
                refine plan_take (v := ?_) rfl (by rfl) ?_ ?_
                rotate_left
                · intro w2 hSw
                  clear hSw
                  go_simp
                  try with_reducible rfl
                try simp only [Act.put, List.setIfInBounds_toArray, List.set_cons_zero, List.set_cons_succ]
              refine plan_move rfl (by rfl) (fun K hK => ?_)
              go_simp
              (with_reducible refine (DY.out _).mono ?_)
              rintro e w7 ⟨rfl, hb2⟩
              refine hK.out _ _ (below_step hH.out hb2) ?_
              clear hH hK hb2 K
              intro hH
              try simp only [Act.put, List.setIfInBounds_toArray, List.set_cons_zero, List.set_cons_succ]
              iterate 2
                refine plan_take (v := ?_) rfl (by rfl) ?_ ?_
                rotate_left
                · intro w2 hSw
                  clear hSw
                  go_simp
                  try with_reducible rfl
                try simp only [Act.put, List.setIfInBounds_toArray, List.set_cons_zero, List.set_cons_succ]
              refine plan_done ?_
              have hbel := hH.out
              clear b1 iw
              go_wp2
              go_roundw
              case rel => exact ⟨j + 1, by omega, by go_num, by rw [HX.out]; exact Hp.out, hbel⟩
              case measure => simp [intOf]; omega
          · rw [if_neg (fun h => h1 (by rw [← Hdl.out]; exact h.1))] at hp
            have b1 : ((s.size : Int) != (N.size : Int) + 24) = true := by rw [bne, Bool.not_eq_true', beq_eq_false_iff_ne]; omega
            have Hp := Lib.hid hp
            have Hb1 := Lib.hid b1
            have Hiw := Lib.hid iw
            clear hp h1 hNd b1 iw
            go_upto_region 16 with (go_at_call 61; (with_reducible refine (DY.out _).mono ?_); rintro e w6 ⟨rfl, hb6⟩; have B6 := Lib.hid (below_step HB.out hb6); clear hb6)
            have b1 := Hb1.out
            have iw := Hiw.out
            refine wp_region_plan (fun w' => Below w.heap.size w w') [(0, true), (1, true), (2, true), (3, true), (4, true), (5, true), (6, true), (7, true), (8, true), (9, true), (10, false), (11, true), (12, true)] (by kernel_rfl) (by kernel_rfl) rfl (by kernel_rfl) (below_drewN B6.out 1) ?_
            intro w1 hH
            iterate 6
              refine plan_take (v := ?_) rfl (by rfl) ?_ ?_
              rotate_left
              · intro w2 hSw
                clear hSw
                go_simp
                try with_reducible rfl
              try simp only [Act.put, List.setIfInBounds_toArray, List.set_cons_zero, List.set_cons_succ]
            iterate 4
              refine plan_skip rfl (by rfl) ?_
              try simp only [Act.put, List.setIfInBounds_toArray, List.set_cons_zero, List.set_cons_succ]
            refine plan_skipM rfl (by rfl) hH.out ?_
            try simp only [Act.put, List.setIfInBounds_toArray, List.set_cons_zero, List.set_cons_succ]
            iterate 1
              refine plan_skip rfl (by rfl) ?_
              try simp only [Act.put, List.setIfInBounds_toArray, List.set_cons_zero, List.set_cons_succ]
            iterate 1
              refine plan_take (v := ?_) rfl (by rfl) ?_ ?_
              rotate_left
              · intro w2 hSw
                clear hSw
                go_simp
                try with_reducible rfl
              try simp only [Act.put, List.setIfInBounds_toArray, List.set_cons_zero, List.set_cons_succ]
            refine plan_done ?_
            have hbel := hH.out
            clear b1 iw
            go_wp2
            go_roundw
            case rel => exact ⟨j + 1, by omega, by go_num, by rw [HX.out]; exact Hp.out, hbel⟩
            case measure => simp [intOf]; omega
        · obtain rfl : j = 7 := by omega
          have e : ref1 s.data.toList (week7.drop 7) = (0, 10) := rfl
          rw [e] at hp
          have Hp := Lib.hid hp
          clear hp e
          go_wp2
          go_ret2
          rw [Hp.out]
          exact ⟨rfl, hbel⟩
end Go.Proofs.YtpmidmdodjgeeaaDoor
