/- Walk of script.octetOf: the octet that a coded one begins with. Condition: the text is not empty and takes at most 10^9 octets. -/
import Derived.Test.YtaddefjkjlkjnaaDoorScr1
import Derived.Test.YtaddefjkjlkjnaaDoorOct5
import Derived.Test.YtaddefjkjlkjnaaDoorOct8
import Derived.Deep.RegionHeld3
import Derived.Deep.DrawnRows
namespace Go.Proofs.YtaddefjkjlkjnaaDoor
open Go.RowKit IH
set_option maxRecDepth 100000
attribute [local go_sem ↓] Go.wp_at_zero Go.wp_at_succ

/-- The octet, and how long its code is; 0: there is none. -/
def octR (l : List UInt8) : UInt8 × Nat := match octOf l with
  | some c => (c, (code c).length)
  | none => (0, 0)
theorem octR_P (l : List UInt8) : octR l = match octP l with
  | some c => (c, (code c).length)
  | none => (0, 0) := by rw [octP_eq]; rfl
theorem list_two (s : ByteArray) (h : 1 < s.size) (a b : UInt8) (ha : s[0] = a) (hb : s[1] = b) : s.data.toList = a :: b :: s.data.toList.drop 2 := by
  have h0 := data_drop s 0 (by omega)
  have h1 := data_drop s 1 h
  rw [List.drop_zero] at h0
  rw [h0, h1, ha, hb]
  rfl
theorem octR_esc (b : UInt8) (t : List UInt8) (h : b = 114 ∨ b = 110 ∨ b = 34 ∨ b = 92) : octR (92 :: b :: t) = (escOf b, 2) := by
  rw [octR_P]
  rcases h with rfl | rfl | rfl | rfl
  · have e : code (escOf 114) = [92, 114] := by decide
    simp [octP, show isPlain27 92 = false by decide, e]
  · have e : code (escOf 110) = [92, 110] := by decide
    simp [octP, show isPlain27 92 = false by decide, e]
  · have e : code (escOf 34) = [92, 34] := by decide
    simp [octP, show isPlain27 92 = false by decide, e]
  · have e : code (escOf 92) = [92, 92] := by decide
    simp [octP, show isPlain27 92 = false by decide, e]
theorem octR_none2 (b : UInt8) (t : List UInt8) (h1 : b ≠ 114) (h2 : b ≠ 110) (h3 : b ≠ 34) (h4 : b ≠ 92) (h5 : b ≠ 120) : octR (92 :: b :: t) = (0, 0) := by
  have e : escOf b = 0 := by unfold escOf; rw [if_neg h1, if_neg h2, if_neg (by rintro (h | h); exact h3 h; exact h4 h)]
  have e2 : code 0 = [92, 120, 48, 48] := by decide
  rw [octR_P]
  simp [octP, show isPlain27 92 = false by decide, e, e2, h5]
theorem byte_not (c : UInt8) (n : Nat) (h : n < 256) (hc : c ≠ UInt8.ofNat n) : ((c.toNat : Int) == (n : Int)) = false := by
  rw [Bool.eq_false_iff]; exact fun hh => hc ((byte_lit c n h).1 hh)
theorem cut_two (s : ByteArray) (h : 1 < s.size) (a b : UInt8) (ha : s[0] = a) (hb : s[1] = b) : (s.extract 0 2).toList = [a, b] := by
  rw [ByteArray.toList_eq, take_data s 2 (by omega), list_two s h a b ha hb]; rfl

theorem numR_le16 {l : List UInt8} {v : Int} (h : numR 16 255 l = (v, 0)) : 0 ≤ v ∧ v ≤ 255 := by
  unfold numR at h
  by_cases h1 : l = []
  · rw [if_pos h1] at h; simp at h
  · rw [if_neg h1] at h
    by_cases h2 : badDig 16 l = true
    · rw [if_pos h2] at h; simp at h
    · rw [if_neg h2, if_neg (by omega)] at h
      cases hA : accN 16 255 0 l with
      | none => rw [hA] at h; simp [accR] at h
      | some m =>
        rw [hA] at h
        simp only [accR, Prod.mk.injEq, and_true] at h
        subst h
        exact accN_bound 16 (by omega) 255 0 m l hA (by omega) (by omega)
theorem plain_at (c : UInt8) (n : Int) (hn : n = c.toNat) (w : World) : Calls Tryd.prog 178 #[.int .u8 n] w fun e w' => e = .returned (.bool (isPlain27 c)) ∧ w = w' := by subst hn; exact plain27_any c w
theorem coded_at (c : UInt8) (n : Int) (hn : n = c.toNat) (w : World) : Calls Tryd.prog 156 #[.int .u8 n] w fun e w' => e = .returned (.string ⟨(code c).toArray⟩) ∧ Below w.heap.size w w' := by subst hn; exact coded_any c w


set_option maxHeartbeats 8000000 in
theorem octetOf_any (s : ByteArray) (h0 : 0 < s.size) (hs : s.size ≤ 1000000000) (w : World) :
    Calls Tryd.prog 159 #[.string s] w fun e w' => e = .returned (.tuple #[.int .u8 (octR s.data.toList).1.toNat, .int .i64 (octR s.data.toList).2]) ∧ Below w.heap.size w w' := by
  obtain ⟨a, ha⟩ : ∃ a, s[0] = a := ⟨_, rfl⟩
  have hl : s.data.toList = a :: s.data.toList.drop 1 := by have := data_drop s 0 h0; rw [List.drop_zero] at this; rw [this, ha]; rfl
  by_cases hp : isPlain27 a = true
  · have hr : octR s.data.toList = (a, 1) := by
      rw [hl, octR_P]
      simp [octP, hp, code]
    have Hr := Lib.hid hr; clear hr hl
    have Hp := Lib.hid hp; clear hp
    go_enter Tryd.func159, Tryd.ntmps159
    go_wp2_with (go_at_call 178; (with_reducible refine (plain27_any a _).mono ?_); rintro e w' ⟨rfl, rfl⟩; rw [Hp.out])
    go_ret2
    exact ⟨by rw [Hr.out]; rfl, Below.refl _ _⟩
  · have hp' : isPlain27 a = false := by simpa using hp
    by_cases h92 : a = 92
    · by_cases h1 : 1 < s.size
      · obtain ⟨b, hb⟩ : ∃ b, s[1] = b := ⟨_, rfl⟩
        have hl2 := list_two s h1 a b ha hb
        have hcut := cut_two s h1 a b ha hb
        have Hp := Lib.hid hp'; clear hp hp' hl
        subst h92
        have hz : ¬ s.size < 2 := by omega

        by_cases hb114 : b = 114
        · have hr := octR_esc b (s.data.toList.drop 2) (by rw [hb114]; decide)
          rw [← hl2] at hr
          subst hb114
          have Hr := Lib.hid hr; clear hr hl2
          have hE : (code 13 == (s.extract 0 2).toList) = true := by rw [hcut]; decide
          have Hcut := Lib.hid hcut; clear hcut
          go_enter Tryd.func159, Tryd.ntmps159
          go_wp2_with (go_at_call 178; refine (plain_at 92 92 rfl _).mono ?_; rintro e w' ⟨rfl, rfl⟩; rw [Hp.out])
          go_region_held3 (fun _ => True) (trivial) (first | (go_at_call 156; refine (coded_at 13 13 rfl _).mono ?_; rintro e w1 ⟨rfl, hb1⟩))
          go_wp2
          go_ret2
          exact ⟨by rw [Hr.out]; rfl, below_step ((Below.refl _ _).drew) hb1⟩
        by_cases hb110 : b = 110
        · have hr := octR_esc b (s.data.toList.drop 2) (by rw [hb110]; decide)
          rw [← hl2] at hr
          subst hb110
          have Hr := Lib.hid hr; clear hr hl2
          have hE : (code 10 == (s.extract 0 2).toList) = true := by rw [hcut]; decide
          have Hcut := Lib.hid hcut; clear hcut
          go_enter Tryd.func159, Tryd.ntmps159
          go_wp2_with (go_at_call 178; refine (plain_at 92 92 rfl _).mono ?_; rintro e w' ⟨rfl, rfl⟩; rw [Hp.out])
          go_region_held3 (fun _ => True) (trivial) (first | (go_at_call 156; refine (coded_at 10 10 rfl _).mono ?_; rintro e w1 ⟨rfl, hb1⟩))
          go_wp2
          go_ret2
          exact ⟨by rw [Hr.out]; rfl, below_step ((Below.refl _ _).drew) hb1⟩
        by_cases hb34 : b = 34
        · have hr := octR_esc b (s.data.toList.drop 2) (by rw [hb34]; decide)
          rw [← hl2] at hr
          subst hb34
          have Hr := Lib.hid hr; clear hr hl2
          have hE : (code 34 == (s.extract 0 2).toList) = true := by rw [hcut]; decide
          have Hcut := Lib.hid hcut; clear hcut
          go_enter Tryd.func159, Tryd.ntmps159
          go_wp2_with (go_at_call 178; refine (plain_at 92 92 rfl _).mono ?_; rintro e w' ⟨rfl, rfl⟩; rw [Hp.out])
          go_region_held3 (fun _ => True) (trivial) (first | (go_at_call 156; refine (coded_at 34 34 rfl _).mono ?_; rintro e w1 ⟨rfl, hb1⟩))
          go_wp2
          go_ret2
          exact ⟨by rw [Hr.out]; rfl, below_step ((Below.refl _ _).drew) hb1⟩
        by_cases hb92 : b = 92
        · have hr := octR_esc b (s.data.toList.drop 2) (by rw [hb92]; decide)
          rw [← hl2] at hr
          subst hb92
          have Hr := Lib.hid hr; clear hr hl2
          have hE : (code 92 == (s.extract 0 2).toList) = true := by rw [hcut]; decide
          have Hcut := Lib.hid hcut; clear hcut
          go_enter Tryd.func159, Tryd.ntmps159
          go_wp2_with (go_at_call 178; refine (plain_at 92 92 rfl _).mono ?_; rintro e w' ⟨rfl, rfl⟩; rw [Hp.out])
          go_region_held3 (fun _ => True) (trivial) (first | (go_at_call 156; refine (coded_at 92 92 rfl _).mono ?_; rintro e w1 ⟨rfl, hb1⟩))
          go_wp2
          go_ret2
          exact ⟨by rw [Hr.out]; rfl, below_step ((Below.refl _ _).drew) hb1⟩
        by_cases hb120 : b = 120
        · subst hb120
          by_cases h4 : s.size < 4
          · have hr : octR s.data.toList = (0, 0) := by
              have hlen : s.data.toList.length < 4 := by rw [data_len]; exact h4
              rw [octR_P]
              rw [hl2] at hlen ⊢
              simp only [octP, show isPlain27 92 = false by decide]
              simp
              rw [if_pos (by simpa using hlen)]
            have Hr := Lib.hid hr; clear hr hl2 hcut hb114 hb110 hb34 hb92
            go_enter Tryd.func159, Tryd.ntmps159
            go_wp2_with (go_at_call 178; refine (plain_at 92 92 rfl _).mono ?_; rintro e w' ⟨rfl, rfl⟩; rw [Hp.out])
            go_ret2
            exact ⟨by rw [Hr.out]; rfl, Below.refl _ _⟩
          · have hlen : ¬ s.data.toList.length < 4 := by rw [data_len]; exact h4
            have hx : (s.extract 2 4).data.toList = (s.data.toList.drop 2).take 2 := by rw [Lib.extract_data]
            have hx4 : (s.extract 0 4).data.toList = s.data.toList.take 4 := take_data s 4 (by omega)
            have HX := Lib.hid (Hex_any (s.extract 2 4) (by simp; omega) 255 (by omega) (by omega))
            rw [hx] at HX
            obtain ⟨V, hV⟩ : ∃ V, numR 16 255 ((s.data.toList.drop 2).take 2) = V := ⟨_, rfl⟩
            rw [hV] at HX
            obtain ⟨v, er⟩ := V
            simp only at HX
            have hoc : octR s.data.toList = if er ≠ 0 then (0, 0) else if code (UInt8.ofNat v.toNat) = s.data.toList.take 4 then (UInt8.ofNat v.toNat, (code (UInt8.ofNat v.toNat)).length) else (0, 0) := by
              rw [octR_P]
              conv => lhs; rw [hl2]
              rw [hl2] at hlen
              simp only [octP, show isPlain27 92 = false by decide]
              simp only [Bool.false_eq_true, if_false, ne_eq, not_true_eq_false, if_true]
              rw [if_neg hlen, hV, ← hl2]
              by_cases he : er = 0
              · simp only [he, not_true_eq_false, if_false]
                by_cases hc : code (UInt8.ofNat v.toNat) = s.data.toList.take 4
                · rw [if_pos hc, if_pos hc]
                · rw [if_neg hc, if_neg hc]
              · simp [he]
            have Hoc := Lib.hid hoc; clear hoc hl2 hcut hb114 hb110 hb34 hb92 hx
            have hz4 : 4 ≤ s.size := by omega
            clear h4 hlen
            by_cases he : er = 0
            · subst he
              have hvb : 0 ≤ v ∧ v ≤ 255 := numR_le16 hV
              have HV := Lib.hid hV; clear hV
              obtain ⟨c, hc⟩ : ∃ c : UInt8, c = UInt8.ofNat v.toNat := ⟨_, rfl⟩
              have hvc : v = c.toNat := by rw [hc, UInt8.toNat_ofNat']; omega
              have hoc2 := Hoc.out
              rw [← hc] at hoc2
              simp only [ne_eq, not_true_eq_false, if_false] at hoc2
              subst hvc
              clear hc Hoc hvb
              by_cases hE : code c = s.data.toList.take 4
              · rw [if_pos hE] at hoc2
                have hlen4 : (code c).length = 4 := by rw [hE, List.length_take, data_len]; omega
                rw [hlen4] at hoc2
                have Hr := Lib.hid hoc2; clear hoc2 hlen4
                have hE2 : (code c == (s.extract 0 4).toList) = true := by rw [ByteArray.toList_eq, hx4, hE]; simp
                clear hE hx4
                have hc255 : c.toNat ≤ 255 := by have := c.toNat_lt; omega
                go_enter Tryd.func159, Tryd.ntmps159
                go_wp2_with (first
                  | (go_at_call 178; refine (plain_at 92 92 rfl _).mono ?_; rintro e w' ⟨rfl, rfl⟩; rw [Hp.out])
                  | (go_at_call 171; refine (HX.out _).mono ?_; rintro e w1 ⟨rfl, hb0⟩))
                go_region_held3 (fun _ => True) (trivial) (first | (go_at_call 156; (with_reducible refine (coded_any c _).mono ?_); rintro e w2 ⟨rfl, hb1⟩))
                go_wp2
                go_ret2
                exact ⟨by rw [Hr.out]; rfl, below_step hb0.drew hb1⟩
              · rw [if_neg hE] at hoc2
                have Hr := Lib.hid hoc2; clear hoc2
                have hE2 : (code c == (s.extract 0 4).toList) = false := by rw [ByteArray.toList_eq, hx4]; simpa using hE
                clear hE hx4
                have hc255 : c.toNat ≤ 255 := by have := c.toNat_lt; omega
                go_enter Tryd.func159, Tryd.ntmps159
                go_wp2_with (first
                  | (go_at_call 178; refine (plain_at 92 92 rfl _).mono ?_; rintro e w' ⟨rfl, rfl⟩; rw [Hp.out])
                  | (go_at_call 171; refine (HX.out _).mono ?_; rintro e w1 ⟨rfl, hb0⟩))
                go_region_held3 (fun _ => True) (trivial) (first | (go_at_call 156; (with_reducible refine (coded_any c _).mono ?_); rintro e w2 ⟨rfl, hb1⟩))
                go_wp2
                go_ret2
                exact ⟨by rw [Hr.out]; rfl, below_step hb0.drew hb1⟩
            · have hoc2 := Hoc.out
              rw [if_pos he] at hoc2
              have Hr := Lib.hid hoc2; clear hoc2 Hoc hV
              have hbe : (er == 0) = false := by simpa using he
              clear he hx4
              go_enter Tryd.func159, Tryd.ntmps159
              go_wp2_with (first
                | (go_at_call 178; refine (plain_at 92 92 rfl _).mono ?_; rintro e w' ⟨rfl, rfl⟩; rw [Hp.out])
                | (go_at_call 171; refine (HX.out _).mono ?_; rintro e w1 ⟨rfl, hb0⟩))
              go_ret2
              exact ⟨by rw [Hr.out]; rfl, hb0⟩
        · have hr := octR_none2 b (s.data.toList.drop 2) hb114 hb110 hb34 hb92 hb120
          rw [← hl2] at hr
          have Hr := Lib.hid hr; clear hr hl2
          have hE : (code 0 == (s.extract 0 2).toList) = false := by
            rw [hcut, show code 0 = [92, 120, 48, 48] by decide]
            simp
          have c1 : ((b.toNat : Int) == 114) = false := byte_not b 114 (by decide) hb114
          have c2 : ((b.toNat : Int) == 110) = false := byte_not b 110 (by decide) hb110
          have c3 : ((b.toNat : Int) == 34) = false := byte_not b 34 (by decide) hb34
          have c4 : ((b.toNat : Int) == 92) = false := byte_not b 92 (by decide) hb92
          have c5 : ((b.toNat : Int) == 120) = false := byte_not b 120 (by decide) hb120
          clear hcut hb114 hb110 hb34 hb92 hb120
          go_enter Tryd.func159, Tryd.ntmps159
          go_wp2_with (go_at_call 178; refine (plain_at 92 92 rfl _).mono ?_; rintro e w' ⟨rfl, rfl⟩; rw [Hp.out])
          go_region_held3 (fun _ => True) (trivial) (first | (go_at_call 156; refine (coded_at 0 0 rfl _).mono ?_; rintro e w1 ⟨rfl, hb1⟩))
          go_wp2
          go_ret2
          exact ⟨by rw [Hr.out]; rfl, below_step ((Below.refl _ _).drew) hb1⟩
      · have hr : octR s.data.toList = (0, 0) := by
          have e1 : s.data.toList.drop 1 = [] := List.drop_eq_nil_of_le (by rw [data_len]; omega)
          rw [hl, e1, h92, octR_P]
          simp [octP, show isPlain27 92 = false by decide]
        have Hp := Lib.hid hp'; clear hp hp' hl
        subst h92
        have Hr := Lib.hid hr; clear hr
        have hz : s.size < 2 := by omega
        go_enter Tryd.func159, Tryd.ntmps159
        go_wp2_with (go_at_call 178; refine (plain_at 92 92 rfl _).mono ?_; rintro e w' ⟨rfl, rfl⟩; rw [Hp.out])
        go_ret2
        exact ⟨by rw [Hr.out]; rfl, Below.refl _ _⟩
    · have hr : octR s.data.toList = (0, 0) := by
        rw [hl, octR_P]
        simp [octP, hp', h92]
      have Hr := Lib.hid hr; clear hr hl
      have Hp := Lib.hid hp'; clear hp hp'
      have c92 : ((a.toNat : Int) == 92) = false := byte_not a 92 (by decide) h92
      have c92n : ((a.toNat : Int) != 92) = true := by rw [bne, c92]; rfl
      clear h92
      go_enter Tryd.func159, Tryd.ntmps159
      go_wp2_with (go_at_call 178; (with_reducible refine (plain27_any a _).mono ?_); rintro e w' ⟨rfl, rfl⟩; rw [Hp.out])
      go_ret2
      exact ⟨by rw [Hr.out]; rfl, Below.refl _ _⟩
end Go.Proofs.YtaddefjkjlkjnaaDoor
