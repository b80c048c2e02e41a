/- Walks of layer 5: what a host is, by the document; a host and a port, by the document. No condition but that lengths are within bounds. -/
import Derived.Test.YtaddefjkjlkjnaaDoorTar3
namespace Go.Proofs.YtaddefjkjlkjnaaDoor
open Go.RowKit IH
set_option maxRecDepth 100000
theorem hexa99 (c : UInt8) : (hexaR c == 99) = !isHex c := by
  have := all_bytes (fun c => (hexaR c == 99) == !isHex c) (by decide +kernel) c
  exact eq_of_beq this
theorem host_plain (c : UInt8) : hostC c = (free5 c || hasC c subs5) := rfl
set_option maxHeartbeats 4000000 in
theorem refHost_any (s : ByteArray) (hs : s.size ≤ 1000000000) (w : World) :
    Calls Tryd.prog 141 #[.string s] w fun e w' => e = .returned (.bool (hostOk s.data.toList)) ∧ Below w.heap.size w w' := by
  rcases pre91 s.data.toList with ⟨r, h0, _, _⟩ | ⟨h0, _, _⟩
  · have hrs : r.length + 1 = s.size := by rw [← data_len, h0]; rfl
    have hs0 : 0 < s.size := by omega
    have s0 : s[0] = 91 := by
      have := get_data s 0 hs0
      rw [h0] at this
      exact (Option.some.inj this).symm
    have hI : (0 : Int) < (s.size : Int) := by omega
    rw [h0, hostOk_91]
    by_cases h2 : r.length < 2
    · have e : decide (2 ≤ r.length) = false := by simp; omega
      rw [e]
      have hI3 : (s.size : Int) < 3 := by omega
      clear e h0
      go_enter Tryd.func141, Tryd.ntmps141
      go_wp2
      go_ret
      exact ⟨ret_bool (by simp), Below.refl _ _⟩
    · have e : decide (2 ≤ r.length) = true := by simp; omega
      rw [e, Bool.and_true]
      have hI3 : (3 : Int) ≤ (s.size : Int) := by omega
      obtain ⟨N, hN⟩ : ∃ N, s.size = N + 1 := ⟨s.size - 1, by omega⟩
      have hNs : N < s.size := by omega
      obtain ⟨d, hd⟩ : ∃ d, s[N] = d := ⟨_, rfl⟩
      have hlast : r.getLast? = some d := by
        have h3 := get_data s N hNs
        rw [h0, hd, show N = (N - 1) + 1 by omega, List.getElem?_cons_succ] at h3
        rw [List.getLast?_eq_getElem?, ← h3]
        congr 1
        omega
      rw [hlast]
      have hNI : (s.size : Int) - 1 = (N : Int) := by omega
      have hw1 : IntKind.i64.wrap ((s.size : Int) - 1) = (N : Int) := by rw [hNI]; exact IntWalk.i64_in _ ⟨by omega, by omega⟩
      have eD := byteLit d 93 93 rfl
      have hdl : r.dropLast = (s.data.toList.take N).drop 1 := by
        rw [h0, List.dropLast_eq_take, show N = (r.length - 1) + 1 by omega, List.take_succ_cons]; rfl
      rw [hdl]
      by_cases h93 : d = 93
      · subst h93
        have f93 : (((93 : UInt8).toNat : Int) == 93) = true := by decide
        have f93' : (((93 : UInt8).toNat : Int) != 93) = false := by decide
        have eb : (some (93 : UInt8) == some 93) = true := rfl
        rw [eb, Bool.true_and]
        have HX := Lib.hid (fun c w => hexa_any c w)
        clear e h0 hlast hdl eD h2 eb
        have hN1 : 1 ≤ N := by omega
        go_enter Tryd.func141, Tryd.ntmps141
        go_wp2
        go_loopw [3] (fun i wr => ∃ k : Nat, 1 ≤ k ∧ k ≤ N ∧ i = .int .i64 k ∧ ((s.data.toList.take k).drop 1).all innC = true ∧ Below w.heap.size w wr) (fun i _ => N - (intOf i).toNat)
        case atStart => exact ⟨1, by omega, by omega, rfl, by rw [List.drop_eq_nil_of_le (by rw [List.length_take]; omega)]; rfl, Below.refl _ _⟩
        case round =>
          obtain ⟨w0, rfl⟩ : ∃ w0 : World, w0 = wr := ⟨_, rfl⟩
          obtain ⟨k, hk1, hk, rfl, hall, hbel⟩ := hrel
          have HA := Lib.hid hall
          have HB := Lib.hid hbel
          clear hall hbel
          by_cases hlt : k < N
          · have hks : k < s.size := by omega
            obtain ⟨c, hc⟩ : ∃ c, s[k] = c := ⟨_, rfl⟩
            have kI : (k : Int) < (s.size : Int) - 1 := by omega
            have kI2 : (k : Int) < (N : Int) := by omega
            have HC := fun W => HX.out c W
            have e99 := hexa99 c
            have e58 := byteLit c 58 58 rfl
            have e46 := byteLit c 46 46 rfl
            have hin := inn_nat c
            obtain ⟨hv, hhv⟩ : ∃ x, hexaR c = x := ⟨_, rfl⟩
            rw [hhv] at HC e99
            replace HC := Lib.hid HC
            clear hhv
            by_cases hi : innC c = true
            · have HN : Hid (((s.data.toList.take (k + 1)).drop 1).all innC = true) := Lib.hid (by
                rw [data_take_succ s k hks, hc, List.drop_append_of_le_length (by rw [List.length_take, data_len]; omega), List.all_append, HA.out]; simp [hi])
              rw [hi] at hin
              clear hi
              cases hh : isHex c with
              | true =>
                have f99 : (hv == 99) = false := by rw [e99, hh]; rfl
                clear hin hh e58 e46 e99
                go_wp2_with (go_at_call 102; refine (HC.out _).mono ?_; rintro e w2 ⟨rfl, hb2⟩)
                go_roundw
                case rel => exact ⟨k + 1, by omega, by omega, by go_num, HN.out, below_step HB.out hb2⟩
                case measure => simp [intOf]; omega
              | false =>
                have f99 : (hv == 99) = true := by rw [e99, hh]; rfl
                rw [hh, Bool.false_or] at hin
                by_cases h58 : c.toNat = 58
                · have f58 : ((c.toNat : Int) == 58) = true := by rw [e58, h58]; rfl
                  have f58' : ((c.toNat : Int) != 58) = false := by rw [bne, f58]; rfl
                  clear hin hh e58 e46 h58 e99
                  go_wp2_with (go_at_call 102; refine (HC.out _).mono ?_; rintro e w2 ⟨rfl, hb2⟩)
                  go_roundw
                  case rel => exact ⟨k + 1, by omega, by omega, by go_num, HN.out, below_step HB.out hb2⟩
                  case measure => simp [intOf]; omega
                · have f58 : ((c.toNat : Int) == 58) = false := by rw [e58, beq_eq_false_iff_ne]; exact h58
                  have f58' : ((c.toNat : Int) != 58) = true := by rw [bne, f58]; rfl
                  have f46 : ((c.toNat : Int) == 46) = true := by
                    rw [e46]
                    have : (c.toNat == 58) = false := by rw [beq_eq_false_iff_ne]; exact h58
                    rw [this, Bool.false_or] at hin
                    exact hin.symm
                  have f46' : ((c.toNat : Int) != 46) = false := by rw [bne, f46]; rfl
                  clear hin hh e58 e46 h58 e99
                  go_wp2_with (go_at_call 102; refine (HC.out _).mono ?_; rintro e w2 ⟨rfl, hb2⟩)
                  go_roundw
                  case rel => exact ⟨k + 1, by omega, by omega, by go_num, HN.out, below_step HB.out hb2⟩
                  case measure => simp [intOf]; omega
            · have hi' : innC c = false := by simpa using hi
              have HN : Hid (((s.data.toList.take N).drop 1).all innC = false) := Lib.hid (by
                rw [List.all_eq_false]
                refine ⟨c, ?_, by simp [hi']⟩
                have h3 : ((s.data.toList.take N).drop 1)[k - 1]? = some c := by
                  rw [List.getElem?_drop, List.getElem?_take, if_pos (by omega), show 1 + (k - 1) = k by omega, get_data s k hks, hc]
                exact List.mem_of_getElem? h3)
              rw [hi'] at hin
              have hin' := hin.symm
              simp only [Bool.or_eq_false_iff] at hin'
              obtain ⟨⟨hh, h58⟩, h46⟩ := hin'
              have f99 : (hv == 99) = true := by rw [e99, hh]; rfl
              have f58 : ((c.toNat : Int) == 58) = false := by rw [e58, h58]
              have f58' : ((c.toNat : Int) != 58) = true := by rw [bne, f58]; rfl
              have f46 : ((c.toNat : Int) == 46) = false := by rw [e46, h46]
              have f46' : ((c.toNat : Int) != 46) = true := by rw [bne, f46]; rfl
              clear hin hh hi hi' e58 e46 h58 h46 e99
              go_wp2_with (go_at_call 102; refine (HC.out _).mono ?_; rintro e w2 ⟨rfl, hb2⟩)
              go_ret
              exact ⟨ret_bool HN.out.symm, below_step HB.out hb2⟩
          · obtain rfl : k = N := by omega
            clear hlt
            go_wp2
            go_ret
            exact ⟨ret_bool HA.out.symm, HB.out⟩
      · have f93 : ((d.toNat : Int) == 93) = false := by
          rw [eD, beq_eq_false_iff_ne]
          intro h
          exact h93 (UInt8.toNat_inj.1 h)
        have f93' : ((d.toNat : Int) != 93) = true := by rw [bne, f93]; rfl
        have eb : (some d == some (93 : UInt8)) = false := by simp [h93]
        rw [eb]
        clear e h0 hlast hdl eD h2 eb h93
        go_enter Tryd.func141, Tryd.ntmps141
        go_wp2
        go_ret
        exact ⟨ret_bool (by simp), Below.refl _ _⟩
  · rw [host_out h0, funext of_host]
    have FR := Lib.hid (fun c w => tfree_any c w)
    have AM := fun c w => among_any c ⟨#[33, 36, 38, 39, 40, 41, 42, 43, 44, 59, 61]⟩ (by show 11 ≤ _; omega) w
    rw [show (⟨#[33, 36, 38, 39, 40, 41, 42, 43, 44, 59, 61]⟩ : ByteArray).data.toList = subs5 from rfl] at AM
    replace AM := Lib.hid AM
    have hz : s.size = 0 ∨ (0 < s.size ∧ ∃ h : 0 < s.size, ((s[0].toNat : Int) == 91) = false) := by
      rcases Nat.eq_zero_or_pos s.size with h | h
      · exact .inl h
      · refine .inr ⟨h, h, ?_⟩
        rw [beq_eq_false_iff_ne]
        intro h9
        apply h0
        have := get_data s 0 h
        rw [← List.head?_eq_getElem?] at this
        rw [this]
        congr 1
        exact UInt8.toNat_inj.1 (by have : (91 : UInt8).toNat = 91 := rfl; omega)
    rcases hz with hz | ⟨hz, hz', h91⟩
    · have hz2 : s.data.toList = [] := List.eq_nil_of_length_eq_zero (by rw [data_len]; exact hz)
      have hse : s = ⟨#[]⟩ := bytes_inj (by rw [hz2])
      subst hse
      clear hz hz2 h0
      go_enter Tryd.func141, Tryd.ntmps141
      go_wp2
      go_loopw [4] (fun i wr => i = .int .i64 0 ∧ wr = w) (fun i _ => 0)
      case atStart => exact ⟨rfl, rfl⟩
      case round =>
        obtain ⟨rfl, rfl⟩ := hrel
        go_wp2
        go_ret
        exact ⟨rfl, Below.refl _ _⟩
    · have hI : (0 : Int) < (s.size : Int) := by omega
      have hne : s.data.toList.isEmpty = false := by
        cases h : s.data.toList with
        | nil => have := data_len s; rw [h] at this; simp at this; omega
        | cons _ _ => rfl
      rw [hne, Bool.not_false, Bool.true_and]
      clear hne h0
      go_enter Tryd.func141, Tryd.ntmps141
      go_wp2
      go_loopw [4] (fun i wr => ∃ k : Nat, k ≤ s.size ∧ i = .int .i64 k ∧ (s.data.toList.take k).all hostC = true ∧ wr = w) (fun i _ => s.size - (intOf i).toNat)
      case atStart => exact ⟨0, by omega, rfl, rfl, rfl⟩
      case round =>
        obtain ⟨k, hk, rfl, hall, rfl⟩ := hrel
        have HA := Lib.hid hall
        clear hall
        by_cases hlt : k < s.size
        · obtain ⟨c, hc⟩ : ∃ c, s[k] = c := ⟨_, rfl⟩
          have kI : (k : Int) < (s.size : Int) := by omega
          have F1 := fun w => FR.out c w
          have A1 := fun w => AM.out c w
          have hp := host_plain c
          have HNt : hostC c = true → Hid ((s.data.toList.take (k + 1)).all hostC = true) := fun h => Lib.hid (by rw [data_take_succ s k hlt, hc, List.all_append, HA.out]; simp [h])
          have HNf : hostC c = false → Hid (s.data.toList.all hostC = false) := fun h => Lib.hid (by rw [data_split s k hlt, hc]; simp [h])
          obtain ⟨f, hf⟩ : ∃ f, free5 c = f := ⟨_, rfl⟩
          obtain ⟨a, ha⟩ : ∃ a, hasC c subs5 = a := ⟨_, rfl⟩
          rw [hf] at F1 hp
          rw [ha] at A1 hp
          rw [hp] at HNt HNf
          replace F1 := Lib.hid F1
          replace A1 := Lib.hid A1
          clear hf ha hp
          cases f with
          | true =>
            have HN := HNt rfl
            clear HNt HNf
            go_wp2_with (go_at_call 103; refine (F1.out _).mono ?_; rintro e w2 ⟨rfl, rfl⟩)
            go_roundw
            case rel => exact ⟨k + 1, by omega, by go_num, HN.out, by first | rfl | trivial⟩
            case measure => simp [intOf]; omega
          | false =>
            cases a with
            | true =>
              have HN := HNt rfl
              clear HNt HNf
              go_wp2_with (first
                | (go_at_call 103; refine (F1.out _).mono ?_; rintro e w2 ⟨rfl, rfl⟩)
                | (go_at_call 104; refine (A1.out _).mono ?_; rintro e w2 ⟨rfl, rfl⟩))
              go_roundw
              case rel => exact ⟨k + 1, by omega, by go_num, HN.out, by first | rfl | trivial⟩
              case measure => simp [intOf]; omega
            | false =>
              have HN := HNf rfl
              clear HNt HNf
              go_wp2_with (first
                | (go_at_call 103; refine (F1.out _).mono ?_; rintro e w2 ⟨rfl, rfl⟩)
                | (go_at_call 104; refine (A1.out _).mono ?_; rintro e w2 ⟨rfl, rfl⟩))
              go_ret
              exact ⟨ret_bool HN.out.symm, Below.refl _ _⟩
        · obtain rfl : k = s.size := by omega
          have hall := HA.out
          rw [List.take_of_length_le (by rw [data_len]; exact Nat.le_refl _)] at hall
          have HN := Lib.hid hall
          clear hall hlt
          go_wp2
          go_ret
          exact ⟨ret_bool HN.out.symm, Below.refl _ _⟩
end Go.Proofs.YtaddefjkjlkjnaaDoor
