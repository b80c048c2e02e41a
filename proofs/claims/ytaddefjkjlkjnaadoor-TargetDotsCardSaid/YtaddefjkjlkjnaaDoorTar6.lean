/- Walk of layer 5: a host and a port, by the document. No condition but that lengths are within bounds. -/
import Derived.Test.YtaddefjkjlkjnaaDoorTar5
namespace Go.Proofs.YtaddefjkjlkjnaaDoor
open Go.RowKit IH
set_option maxRecDepth 100000
def seatR (l : List UInt8) : List UInt8 × Int × Bool := match seatL l with
  | some (h, n) => (h, n, true)
  | none => ([], 0, false)
/-- Where a host ends. -/
def endsAt (s : ByteArray) (a : Nat) : Prop := a ≤ s.size ∧ ((a = s.size ∧ splitHost s.data.toList = (s.data.toList, [])) ∨ (a + 1 ≤ s.size ∧ splitHost s.data.toList = (s.data.toList.take a, s.data.toList.drop (a + 1))))
theorem ends_none {s : ByteArray} (h : ∀ c ∈ s.data.toList, unmark c = true) : endsAt s s.size := ⟨Nat.le_refl _, .inl ⟨rfl, split_none _ h⟩⟩
theorem ends_93 {s : ByteArray} {m : Nat} (hm : m < s.size) (hc : s[m] = 93) (h : ∀ c ∈ s.data.toList.drop (m + 1), unmark c = true) : endsAt s s.size := by
  refine ⟨Nat.le_refl _, .inl ⟨rfl, ?_⟩⟩
  have e := data_split s m hm
  rw [hc] at e
  rw [e, split_other _ _ h]
theorem ends_58 {s : ByteArray} {m : Nat} (hm : m < s.size) (hc : s[m] = 58) (h : ∀ c ∈ s.data.toList.drop (m + 1), unmark c = true) : endsAt s m := by
  refine ⟨by omega, .inr ⟨by omega, ?_⟩⟩
  have e := data_split s m hm
  rw [hc] at e
  conv => lhs; rw [e]
  rw [split_colon _ _ h]
set_option maxHeartbeats 8000000 in
theorem refSeat_any (s : ByteArray) (hs : s.size ≤ 1000000000) (w : World) :
    Calls Tryd.prog 96 #[.string s] w fun e w' => e = .returned (.tuple #[.string ⟨(seatR s.data.toList).1.toArray⟩, .int .i64 (seatR s.data.toList).2.1, .bool (seatR s.data.toList).2.2]) ∧ Below w.heap.size w w' := by
  obtain ⟨R, hR⟩ : ∃ R, seatR s.data.toList = R := ⟨_, rfl⟩
  rw [hR]
  have HR := Lib.hid hR
  clear hR
  obtain ⟨x0, hx0⟩ : ∃ x : Int, (s.size : Int) - 1 = x := ⟨_, rfl⟩
  have hw0 : IntKind.i64.wrap x0 = x0 := IntWalk.i64_in _ ⟨by omega, by omega⟩
  have HX0 := Lib.hid hx0
  go_enter Tryd.func96, Tryd.ntmps96
  go_upto_block 0 with fail
  clear hw0
  go_cut [5, 6] from 15 to 27 (fun s5 s6 wx => ∃ a : Nat, s5 = .int .i64 a ∧ endsAt s a ∧ wx = w)
  case first =>
    clear hx0
    go_wp2_with fail
    go_loopw [5, 6] (fun s5 s6 wr => s5 = .int .i64 s.size ∧ wr = w ∧ ((s6 = .int .i64 (-1) ∧ ∀ c ∈ s.data.toList, unmark c = true) ∨ ∃ m : Nat, m < s.size ∧ s6 = .int .i64 m ∧ ∀ c ∈ s.data.toList.drop (m + 1), unmark c = true)) (fun _ s6 _ => (intOf s6 + 1).toNat)
    case atStart =>
      refine ⟨rfl, rfl, ?_⟩
      have hx := HX0.out
      rcases Nat.eq_zero_or_pos s.size with h | h
      · left
        have : s.data.toList = [] := List.eq_nil_of_length_eq_zero (by rw [data_len]; exact h)
        rw [this]
        exact ⟨by rw [show x0 = -1 by omega], by simp⟩
      · right
        refine ⟨s.size - 1, by omega, by rw [show x0 = ((s.size - 1 : Nat) : Int) by omega], ?_⟩
        rw [List.drop_eq_nil_of_le (by rw [data_len]; omega)]
        simp
    case round =>
      obtain ⟨rfl, rfl, hor⟩ := hrel
      rcases hor with ⟨rfl, hno⟩ | ⟨m, hm, rfl, hno⟩
      · have HE := Lib.hid (ends_none hno)
        clear hno
        go_wp2_with fail
        go_meet
        exact ⟨_, rfl, HE.out, rfl⟩
      · obtain ⟨c, hc⟩ : ∃ c, s[m] = c := ⟨_, rfl⟩
        have mI : (0 : Int) ≤ (m : Int) := by omega
        have mI2 : (m : Int) < (s.size : Int) := by omega
        by_cases h93 : c = 93
        · have HE := Lib.hid (ends_93 hm (hc.trans h93) hno)
          subst h93
          have e93 : (((93 : UInt8).toNat : Int) == 93) = true := by decide
          clear hno
          go_wp2_with fail
          go_meet
          exact ⟨_, rfl, HE.out, rfl⟩
        · have e93 : ((c.toNat : Int) == 93) = false := by rw [byteLit c 93 93 rfl, beq_eq_false_iff_ne]; intro h; exact h93 (UInt8.toNat_inj.1 h)
          by_cases h58 : c = 58
          · have HE := Lib.hid (ends_58 hm (hc.trans h58) hno)
            subst h58
            have e58 : (((58 : UInt8).toNat : Int) == 58) = true := by decide
            clear hno h93
            go_wp2_with fail
            go_meet
            exact ⟨_, rfl, HE.out, rfl⟩
          · have e58 : ((c.toNat : Int) == 58) = false := by rw [byteLit c 58 58 rfl, beq_eq_false_iff_ne]; intro h; exact h58 (UInt8.toNat_inj.1 h)
            have HN : Hid (∀ x ∈ s.data.toList.drop m, unmark x = true) := Lib.hid (by
              rw [data_drop s m hm, hc]
              intro x hx
              rcases List.mem_cons.1 hx with rfl | hx
              · simp [unmark, h58, h93]
              · exact hno x hx)
            clear hno h93 h58
            rcases Nat.eq_zero_or_pos m with rfl | hm0
            · go_wp2_with fail
              go_roundw
              case rel => exact ⟨by first | rfl | trivial, by first | rfl | trivial, .inl ⟨by go_num, by have := HN.out; rw [List.drop_zero] at this; exact this⟩⟩
              case measure => simp [intOf] <;> omega
            · obtain ⟨p, hp⟩ : ∃ p, m = p + 1 := ⟨m - 1, by omega⟩
              subst hp
              have wp : IntKind.i64.wrap (((p + 1 : Nat) : Int) - 1) = (p : Int) := by rw [show ((p + 1 : Nat) : Int) - 1 = (p : Int) by omega]; exact IntWalk.i64_in _ ⟨by omega, by omega⟩
              go_wp2_with fail
              go_roundw
              case rel => exact ⟨by first | rfl | trivial, by first | rfl | trivial, .inr ⟨p, by omega, by go_num, HN.out⟩⟩
              case measure => simp [intOf] <;> omega
  case rest =>
    obtain ⟨a, rfl, hea, rfl⟩ := hcut
    obtain ⟨ha, hor⟩ := hea
    obtain ⟨H, hH⟩ : ∃ H : ByteArray, s.extract 0 a = H := ⟨_, rfl⟩
    have hHl : H.data.toList = s.data.toList.take a := by rw [← hH, take_data s a ha]
    have hHs : H.size ≤ 1000000000 := by rw [← data_len, hHl, List.length_take, data_len]; omega
    have HS := fun w => refHost_any H hHs w
    have LW := fun w => refLower_any H hHs w
    obtain ⟨ok, hok⟩ : ∃ b, hostOk H.data.toList = b := ⟨_, rfl⟩
    obtain ⟨L, hL⟩ : ∃ L : ByteArray, (⟨(lower H.data.toList).toArray⟩ : ByteArray) = L := ⟨_, rfl⟩
    rw [hok] at HS
    rw [hL] at LW
    have HL : Hid (L = ⟨(lower H.data.toList).toArray⟩) := Lib.hid hL.symm
    have aI : (a : Int) ≤ (s.size : Int) := by omega
    have a0 : (0 : Int) ≤ (a : Int) := by omega
    have w1 : IntKind.i64.wrap ((a : Int) + 1) = (a : Int) + 1 := IntWalk.i64_in _ ⟨by omega, by omega⟩
    have hUx : seatL s.data.toList = if hostOk (splitHost s.data.toList).1 = true then (if (splitHost s.data.toList).2 = [] then some (lower (splitHost s.data.toList).1, 80) else if (numR 10 65535 (splitHost s.data.toList).2).2 = 0 ∧ (splitHost s.data.toList).2.length ≤ 5 then some (lower (splitHost s.data.toList).1, (numR 10 65535 (splitHost s.data.toList).2).1) else none) else none := rfl
    replace HS := Lib.hid HS
    replace LW := Lib.hid LW
    have hsp1 : (splitHost s.data.toList).1 = H.data.toList := by
      rcases hor with ⟨h1, h2⟩ | ⟨_, h2⟩
      · rw [h2, hHl, h1, List.take_of_length_le (by rw [data_len]; exact Nat.le_refl _)]
      · rw [h2, hHl]
    rw [hsp1, hok] at hUx
    cases ok with
    | false =>
      have hr : R = ([], 0, false) := by rw [← HR.out]; unfold seatR; rw [hUx]; rfl
      have HRR := Lib.hid hr
      clear hr hUx hsp1 hok hL hHl hor hx0 LW HL
      go_wp2_with (go_at_call 141; refine (HS.out _).mono ?_; rintro e w2 ⟨rfl, hb2⟩)
      go_ret3
      rw [HRR.out]
      exact ⟨rfl, hb2⟩
    | true =>
      rw [if_pos rfl] at hUx
      by_cases hend : s.size ≤ a + 1
      · have hsp2 : (splitHost s.data.toList).2 = [] := by
          rcases hor with ⟨_, h2⟩ | ⟨_, h2⟩
          · rw [h2]
          · rw [h2]; exact List.drop_eq_nil_of_le (by rw [data_len]; exact hend)
        rw [if_pos hsp2] at hUx
        have hr : R = (lower H.data.toList, 80, true) := by rw [← HR.out]; unfold seatR; rw [hUx]
        have HRR := Lib.hid hr
        have eI : (s.size : Int) ≤ (a : Int) + 1 := by omega
        clear hr hUx hsp1 hsp2 hok hL hHl hor hx0 hend
        go_wp2_with (first
          | (go_at_call 141; refine (HS.out _).mono ?_; rintro e w2 ⟨rfl, hb2⟩)
          | (go_at_call 61; refine (LW.out _).mono ?_; rintro e w3 ⟨rfl, hb3⟩))
        go_ret3
        rw [HRR.out]
        exact ⟨by rw [HL.out]; rfl, below_step hb2 hb3⟩
      · obtain ⟨Q, hQ⟩ : ∃ Q : ByteArray, s.extract (a + 1) s.size = Q := ⟨_, rfl⟩
        have hQl : Q.data.toList = s.data.toList.drop (a + 1) := by rw [← hQ, drop_data]
        have hQs : Q.size = s.size - (a + 1) := by rw [← data_len, hQl, List.length_drop, data_len]
        have hsp2 : (splitHost s.data.toList).2 = Q.data.toList := by
          rcases hor with ⟨h1, _⟩ | ⟨_, h2⟩
          · omega
          · rw [h2, hQl]
        have hQne : Q.data.toList ≠ [] := by
          intro h
          have h0 : Q.size = 0 := by rw [← data_len, h]; rfl
          omega
        rw [hsp2, if_neg hQne, data_len] at hUx
        have NU := fun w => refNumber10_any Q (by omega) 65535 (by omega) (by omega) w
        obtain ⟨n1, hn1⟩ : ∃ b, (numR 10 65535 Q.data.toList).1 = b := ⟨_, rfl⟩
        obtain ⟨n2, hn2⟩ : ∃ b, (numR 10 65535 Q.data.toList).2 = b := ⟨_, rfl⟩
        rw [hn1, hn2] at NU hUx
        replace NU := Lib.hid NU
        have eI : (a : Int) + 1 < (s.size : Int) := by omega
        have eI2 : (a : Int) + 1 ≤ (s.size : Int) := by omega
        have w2 : IntKind.i64.wrap ((s.size : Int) - (a : Int)) = (s.size : Int) - (a : Int) := IntWalk.i64_in _ ⟨by omega, by omega⟩
        have w3 : IntKind.i64.wrap ((s.size : Int) - (a : Int) - 1) = (Q.size : Int) := by rw [hQs, show (s.size : Int) - (a : Int) - 1 = ((s.size - (a + 1) : Nat) : Int) by omega]; exact IntWalk.i64_in _ ⟨by omega, by omega⟩
        have HUX := Lib.hid hUx
        clear hsp1 hsp2 hok hL hHl hor hx0 hend hQne hn1 hn2 hQl hQs hUx
        by_cases h0 : n2 = 0
        · subst h0
          by_cases h5 : Q.size ≤ 5
          · have h5I : (Q.size : Int) ≤ 5 := by omega
            have hr : R = (lower H.data.toList, n1, true) := by rw [← HR.out]; unfold seatR; rw [HUX.out, if_pos ⟨rfl, h5⟩]
            have HRR := Lib.hid hr
            clear hr h5 HUX
            go_wp2_with (first
              | (go_at_call 141; refine (HS.out _).mono ?_; rintro e w2 ⟨rfl, hb2⟩)
              | (go_at_call 61; refine (LW.out _).mono ?_; rintro e w3 ⟨rfl, hb3⟩)
              | (go_at_call 142; refine (NU.out _).mono ?_; rintro e w4 ⟨rfl, rfl⟩))
            go_ret3
            rw [HRR.out]
            exact ⟨by rw [HL.out]; rfl, below_step hb2 hb3⟩
          · have h5I : (5 : Int) < (Q.size : Int) := by omega
            have hr : R = ([], 0, false) := by rw [← HR.out]; unfold seatR; rw [HUX.out, if_neg (fun h => h5 h.2)]
            have HRR := Lib.hid hr
            clear hr h5 HUX
            go_wp2_with (first
              | (go_at_call 141; refine (HS.out _).mono ?_; rintro e w2 ⟨rfl, hb2⟩)
              | (go_at_call 61; refine (LW.out _).mono ?_; rintro e w3 ⟨rfl, hb3⟩)
              | (go_at_call 142; refine (NU.out _).mono ?_; rintro e w4 ⟨rfl, rfl⟩))
            go_ret3
            rw [HRR.out]
            exact ⟨rfl, below_step hb2 hb3⟩
        · have f0 : (n2 == 0) = false := by rw [beq_eq_false_iff_ne]; exact h0
          have f1 : (n2 != 0) = true := by rw [bne, f0]; rfl
          have hr : R = ([], 0, false) := by rw [← HR.out]; unfold seatR; rw [HUX.out, if_neg (fun h => h0 h.1)]
          have HRR := Lib.hid hr
          clear hr HUX h0
          go_wp2_with (first
            | (go_at_call 141; refine (HS.out _).mono ?_; rintro e w2 ⟨rfl, hb2⟩)
            | (go_at_call 61; refine (LW.out _).mono ?_; rintro e w3 ⟨rfl, hb3⟩)
            | (go_at_call 142; refine (NU.out _).mono ?_; rintro e w4 ⟨rfl, rfl⟩))
          go_ret3
          rw [HRR.out]
          exact ⟨rfl, below_step hb2 hb3⟩
end Go.Proofs.YtaddefjkjlkjnaaDoor
