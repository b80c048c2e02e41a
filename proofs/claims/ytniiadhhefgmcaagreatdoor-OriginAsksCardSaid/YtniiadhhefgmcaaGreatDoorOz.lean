/- Oz: several texts, one behind the other. -/
import Derived.Test.YtniiadhhefgmcaaGreatDoorKt
import Derived.Test.YtniiadhhefgmcaaGreatDoorPm
import Derived.IntWalk
/- Walks of layer 1: a number's digits. No condition but that the number is an int. -/
namespace Go.Proofs.YtniiadhhefgmcaaGreatDoor
open Go.RowKit IH
set_option maxRecDepth 100000

def digB : ByteArray := ⟨#[48, 49, 50, 51, 52, 53, 54, 55, 56, 57, 97, 98, 99, 100, 101, 102]⟩
theorem digB_cut : ∀ d, d < 16 → (digB.extract d (d + 1)) = ⟨#[digC d]⟩
  | 0, _ | 1, _ | 2, _ | 3, _ | 4, _ | 5, _ | 6, _ | 7, _ | 8, _ | 9, _ | 10, _ | 11, _ | 12, _ | 13, _ | 14, _ | 15, _ => rfl
  | n + 16, h => by omega

/-- What is left to write, behind what is written. -/
def prAt (base N m : Nat) (t : ByteArray) : Prop := m ≤ N ∧ digs base 64 N = (if m = 0 then [] else digs base 64 m) ++ t.data.toList

theorem prAt_start {base N : Nat} (hb : 2 ≤ base) (hN : N < 2 ^ 63) : prAt base N (N / base) ⟨#[digC (N % base)]⟩ := by
  refine ⟨Nat.div_le_self _ _, ?_⟩
  by_cases h : N < base
  · rw [Nat.div_eq_of_lt h, if_pos rfl, digs_small base N h, Nat.mod_eq_of_lt h]; rfl
  · rw [if_neg (by have := Nat.div_pos (show base ≤ N by omega) (by omega); omega)]
    exact digs_step base hb N hN (by omega)
theorem prAt_next {base N m : Nat} {t : ByteArray} (hb : 2 ≤ base) (hN : N < 2 ^ 63) (hm : 0 < m) (h : prAt base N m t) : prAt base N (m / base) (⟨#[digC (m % base)]⟩ ++ t) := by
  obtain ⟨h1, h2⟩ := h
  obtain ⟨h3, h4⟩ := prAt_start hb (show m < 2 ^ 63 by omega)
  refine ⟨by omega, ?_⟩
  rw [h2, if_neg (by omega), h4, append_data, List.append_assoc]
theorem prAt_end {base N : Nat} {t : ByteArray} (h : prAt base N 0 t) : t = ⟨(digs base 64 N).toArray⟩ := by
  refine bytes_eq ?_
  rw [h.2, if_pos rfl, List.nil_append]





theorem prAt_size {base N m : Nat} {t : ByteArray} (h : prAt base N m t) : t.size ≤ 64 := by
  have h1 := congrArg List.length h.2
  rw [List.length_append, data_len] at h1
  have h2 := digs_length base 64 N
  omega


set_option maxHeartbeats 2000000 in
theorem Print10_any (n b : Int) (h0 : -9223372036854775808 ≤ n) (h1 : n ≤ 9223372036854775807) (hb : b ≠ 16) (w : World) :
    Calls Tryz.prog 89 #[.int .i64 n, .int .i64 b] w fun e w' => e = .returned (.string ⟨(digs 10 64 n.toNat).toArray⟩) ∧ ∃ nq, w' = w.drewN nq := by
  have hb2 : (b != 16) = true := by rw [bne_iff_ne]; exact hb
  by_cases hn : n < 0
  · have e : n.toNat = 0 := by omega
    have e2 : digs 10 64 0 = [digC 0] := rfl
    rw [e, e2]
    have hc := digB_cut 0 (by omega)
    unfold digB at hc
    clear e e2
    go_enter Tryz.func89, Tryz.ntmps89
    go_wp2
    go_quiet (fail)
    go_wp2
    go_loopw [0, 5] (fun m t wr => m = .int .i64 0 ∧ t = .string ⟨#[digC 0]⟩ ∧ ∃ nq, wr = w.drewN nq) (fun _ _ _ => 0)
    case atStart => exact ⟨rfl, rfl, _, rfl⟩
    case round =>
      obtain ⟨rfl, rfl, nq, rfl⟩ := hrel
      go_wp2
      go_ret
      exact ⟨rfl, _, rfl⟩
  · obtain ⟨N, rfl⟩ : ∃ N : Nat, n = N := ⟨n.toNat, by omega⟩
    have e : (N : Int).toNat = N := by omega
    rw [e]
    clear e
    have hN2 : N < 2 ^ 63 := by omega
    have hN3 : (N : Int) ≤ 9223372036854775807 := by omega
    have hm0 : (0 : Int) ≤ (N : Int) % 10 := by omega
    have hm1 : (N : Int) % 10 + 1 ≤ 16 := by omega
    have hcN := digB_cut (N % 10) (by omega)
    unfold digB at hcN
    have HN2 := Lib.hid hN2; clear hN2 h0 h1 hn
    go_enter Tryz.func89, Tryz.ntmps89
    go_wp2
    go_quiet (fail)
    go_wp2
    have HcN := Lib.hid hcN
    clear hm0 hm1 hcN
    go_loopw [0, 5] (fun m t wr => ∃ (M : Nat) (T : ByteArray) (nq : Nat), m = .int .i64 M ∧ t = .string T ∧ prAt 10 N M T ∧ wr = w.drewN nq) (fun m _ _ => (intOf m).toNat)
    case atStart => exact ⟨N / 10, _, _, by go_num, rfl, by rw [HcN.out]; exact prAt_start (by omega) HN2.out, rfl⟩
    case round =>
      obtain ⟨M, T, nq, rfl, rfl, hat, rfl⟩ := hrel
      have Hat := Lib.hid hat
      have hMN := hat.1
      clear hat
      by_cases hM : 0 < M
      · have hnx := prAt_next (by omega) HN2.out hM Hat.out
        have Hnx := Lib.hid hnx
        have hm0 : (0 : Int) ≤ (M : Int) % 10 := by omega
        have hm1 : (M : Int) % 10 + 1 ≤ 16 := by omega
        have hcM := digB_cut (M % 10) (by omega)
        unfold digB at hcM
        have hM3 : (M : Int) ≤ 9223372036854775807 := by omega
        have HcM := Lib.hid hcM
        have hTs : T.size ≤ 64 := prAt_size Hat.out
        clear hnx hcM
        go_wp2
        go_quiet (fail)
        go_wp2
        go_roundw
        case rel => exact ⟨M / 10, _, _, by go_num, rfl, by rw [HcM.out]; exact Hnx.out, rfl⟩
        case measure => simp [intOf]; omega
      · obtain rfl : M = 0 := by omega
        have e := prAt_end Hat.out
        have E := Lib.hid e; clear e
        go_wp2
        go_ret
        rw [E.out]
        exact ⟨rfl, _, rfl⟩

set_option maxHeartbeats 2000000 in
theorem Print16_any (n : Int) (h0 : -9223372036854775808 ≤ n) (h1 : n ≤ 9223372036854775807) (w : World) :
    Calls Tryz.prog 89 #[.int .i64 n, .int .i64 16] w fun e w' => e = .returned (.string ⟨(digs 16 64 n.toNat).toArray⟩) ∧ ∃ nq, w' = w.drewN nq := by
  by_cases hn : n < 0
  · have e : n.toNat = 0 := by omega
    have e2 : digs 16 64 0 = [digC 0] := rfl
    rw [e, e2]
    have hc := digB_cut 0 (by omega)
    unfold digB at hc
    clear e e2
    go_enter Tryz.func89, Tryz.ntmps89
    go_wp2
    go_quiet (fail)
    go_wp2
    go_loopw [0, 5] (fun m t wr => m = .int .i64 0 ∧ t = .string ⟨#[digC 0]⟩ ∧ ∃ nq, wr = w.drewN nq) (fun _ _ _ => 0)
    case atStart => exact ⟨rfl, rfl, _, rfl⟩
    case round =>
      obtain ⟨rfl, rfl, nq, rfl⟩ := hrel
      go_wp2
      go_ret
      exact ⟨rfl, _, rfl⟩
  · obtain ⟨N, rfl⟩ : ∃ N : Nat, n = N := ⟨n.toNat, by omega⟩
    have e : (N : Int).toNat = N := by omega
    rw [e]
    clear e
    have hN2 : N < 2 ^ 63 := by omega
    have hN3 : (N : Int) ≤ 9223372036854775807 := by omega
    have hm0 : (0 : Int) ≤ (N : Int) % 16 := by omega
    have hm1 : (N : Int) % 16 + 1 ≤ 16 := by omega
    have hcN := digB_cut (N % 16) (by omega)
    unfold digB at hcN
    have HN2 := Lib.hid hN2; clear hN2 h0 h1 hn
    go_enter Tryz.func89, Tryz.ntmps89
    go_wp2
    go_quiet (fail)
    go_wp2
    have HcN := Lib.hid hcN
    clear hm0 hm1 hcN
    go_loopw [0, 5] (fun m t wr => ∃ (M : Nat) (T : ByteArray) (nq : Nat), m = .int .i64 M ∧ t = .string T ∧ prAt 16 N M T ∧ wr = w.drewN nq) (fun m _ _ => (intOf m).toNat)
    case atStart => exact ⟨N / 16, _, _, by go_num, rfl, by rw [HcN.out]; exact prAt_start (by omega) HN2.out, rfl⟩
    case round =>
      obtain ⟨M, T, nq, rfl, rfl, hat, rfl⟩ := hrel
      have Hat := Lib.hid hat
      have hMN := hat.1
      clear hat
      by_cases hM : 0 < M
      · have hnx := prAt_next (by omega) HN2.out hM Hat.out
        have Hnx := Lib.hid hnx
        have hm0 : (0 : Int) ≤ (M : Int) % 16 := by omega
        have hm1 : (M : Int) % 16 + 1 ≤ 16 := by omega
        have hcM := digB_cut (M % 16) (by omega)
        unfold digB at hcM
        have hM3 : (M : Int) ≤ 9223372036854775807 := by omega
        have HcM := Lib.hid hcM
        have hTs : T.size ≤ 64 := prAt_size Hat.out
        clear hnx hcM
        go_wp2
        go_quiet (fail)
        go_wp2
        go_roundw
        case rel => exact ⟨M / 16, _, _, by go_num, rfl, by rw [HcM.out]; exact Hnx.out, rfl⟩
        case measure => simp [intOf]; omega
      · obtain rfl : M = 0 := by omega
        have e := prAt_end Hat.out
        have E := Lib.hid e; clear e
        go_wp2
        go_ret
        rw [E.out]
        exact ⟨rfl, _, rfl⟩

theorem Print_any (n b : Int) (h0 : -9223372036854775808 ≤ n) (h1 : n ≤ 9223372036854775807) (w : World) :
    Calls Tryz.prog 89 #[.int .i64 n, .int .i64 b] w fun e w' => e = .returned (.string ⟨(printN n b).toArray⟩) ∧ ∃ nq, w' = w.drewN nq := by
  unfold printN baseOf
  by_cases hb : b = 16
  · subst hb
    exact Print16_any n h0 h1 w
  · rw [if_neg hb]
    exact Print10_any n b h0 h1 hb w
end Go.Proofs.YtniiadhhefgmcaaGreatDoor

/- Walks of layer 1: a number's digits by the document's answer. No condition but that the number is an int. -/
namespace Go.Proofs.YtniiadhhefgmcaaGreatDoor
open Go.RowKit IH
set_option maxRecDepth 100000

theorem run_one_string (W : World) (v : Value) (c : UInt8) (h : v = byteV c) :
    (convert 25 9 (.slice (some ⟨W.heap.size, 0, none⟩) 1 1)).run Tryz.prog (W.alloc (.cells #[v] 5)) = .ok (.string ⟨#[c]⟩) (W.alloc (.cells #[v] 5)) := by
  subst h
  have h1 := (RowAt.new W 5 (bytesV [c])).slice (size := 1) (n := 1) (c := 1) (by rfl) (Nat.le_refl _) (by simp [maxLen])
  exact run_string_of (P := Tryz.prog) h1 25 9 5 Tryz.underlying25 Tryz.underlying5 Tryz.underlying9
theorem digC_lo (d : Nat) (h : d < 10) : Value.int .u8 (48 + (d : Int)) = byteV (digC d) := by
  unfold digC byteV
  rw [if_pos h]
  congr 1
  have : (48 + d) % 256 = 48 + d := Nat.mod_eq_of_lt (by omega)
  simp [this]
theorem digC_hi (d : Nat) (h : 10 ≤ d) (h' : d < 16) : Value.int .u8 (87 + (d : Int)) = byteV (digC d) := by
  unfold digC byteV
  rw [if_neg (by omega)]
  congr 1
  have : (87 + d) % 256 = 87 + d := Nat.mod_eq_of_lt (by omega)
  simp [this]
theorem digs_first {base N M : Nat} {T : ByteArray} (h : digs base 64 N = digs base 64 M ++ T.data.toList) (hM : M < base) : (⟨#[digC M]⟩ ++ T : ByteArray) = ⟨(digs base 64 N).toArray⟩ := by
  refine bytes_eq ?_
  rw [append_data, h, digs_small base M hM]
theorem digs_next {base N M : Nat} {T : ByteArray} (hb : 2 ≤ base) (h : digs base 64 N = digs base 64 M ++ T.data.toList) (hM : base ≤ M) (hM2 : M < 2 ^ 63) :
    digs base 64 N = digs base 64 (M / base) ++ (⟨#[digC (M % base)]⟩ ++ T : ByteArray).data.toList := by
  rw [append_data, h, digs_step base hb M hM2 hM, List.append_assoc]
theorem digs_size {base N M : Nat} {T : ByteArray} (h : digs base 64 N = digs base 64 M ++ T.data.toList) : T.size ≤ 64 := by
  have h1 := congrArg List.length h
  rw [List.length_append, data_len] at h1
  have h2 := digs_length base 64 N
  omega

set_option maxHeartbeats 4000000 in
theorem refPrint10_nat (b : Int) (N : Nat) (hN2 : N < 2 ^ 63) (hb : b ≠ 16) (w : World) :
    Calls Tryz.prog 87 #[.int .i64 N, .int .i64 b] w fun e w' => e = .returned (.string ⟨(digs 10 64 N).toArray⟩) ∧ Below w.heap.size w w' := by
  have hb2 : (b != 16) = true := by rw [bne_iff_ne]; exact hb
  have hN3 : (N : Int) ≤ 9223372036854775807 := by omega
  have HN2 := Lib.hid hN2; clear hN2
  go_enter Tryz.func87, Tryz.ntmps87
  go_wp2
  go_loopw [0, 5] (fun m t wr => ∃ (M : Nat) (T : ByteArray), m = .int .i64 M ∧ t = .string T ∧ M ≤ N ∧ digs 10 64 N = digs 10 64 M ++ T.data.toList ∧ Below w.heap.size w wr) (fun m _ _ => (intOf m).toNat)
  case atStart => exact ⟨N, _, rfl, rfl, Nat.le_refl _, by simp, Below.refl _ _⟩
  case round =>
    obtain ⟨M, T, rfl, rfl, hMN, hat, hbel⟩ := hrel
    have Hat := Lib.hid hat
    have hTs := digs_size hat
    have hM3 : (M : Int) ≤ 9223372036854775807 := by omega
    clear hat
    have e := digC_lo (M % 10) (by omega)
    have hcs := fun W => run_one_string W (.int .u8 (48 + ((M % 10 : Nat) : Int))) _ e
    have ecast : ((M % 10 : Nat) : Int) = (M : Int) % 10 := by omega
    rw [ecast] at hcs
    by_cases hlt : M < 10
    · have hfin := digs_first Hat.out hlt
      have em : M % 10 = M := Nat.mod_eq_of_lt hlt
      rw [em] at hcs
      have Hfin := Lib.hid hfin
      have hdz : ((M : Int) / 10 == 0) = true := by rw [beq_iff_eq]; omega
      clear e hfin em ecast
      go_wp2
      go_ret
      refine ⟨ret_str Hfin.out, ?_⟩
      exact hbel.alloc hbel.size _
    · have hnx := digs_next (by omega) Hat.out (by omega) (by have := HN2.out; omega)
      have Hnx := Lib.hid hnx
      have hdz : ((M : Int) / 10 == 0) = false := by rw [beq_eq_false_iff_ne]; omega
      clear e hnx ecast
      go_wp2
      go_roundw
      case rel => exact ⟨M / 10, _, by go_num, rfl, by have := Nat.div_le_self M 10; omega, Hnx.out, hbel.alloc hbel.size _⟩
      case measure => simp [intOf]; omega


set_option maxHeartbeats 4000000 in
theorem refPrint16_nat (N : Nat) (hN2 : N < 2 ^ 63) (w : World) :
    Calls Tryz.prog 87 #[.int .i64 N, .int .i64 16] w fun e w' => e = .returned (.string ⟨(digs 16 64 N).toArray⟩) ∧ Below w.heap.size w w' := by
  have hN3 : (N : Int) ≤ 9223372036854775807 := by omega
  have HN2 := Lib.hid hN2; clear hN2
  go_enter Tryz.func87, Tryz.ntmps87
  go_wp2
  go_loopw [0, 5] (fun m t wr => ∃ (M : Nat) (T : ByteArray), m = .int .i64 M ∧ t = .string T ∧ M ≤ N ∧ digs 16 64 N = digs 16 64 M ++ T.data.toList ∧ Below w.heap.size w wr) (fun m _ _ => (intOf m).toNat)
  case atStart => exact ⟨N, _, rfl, rfl, Nat.le_refl _, by simp, Below.refl _ _⟩
  case round =>
    obtain ⟨M, T, rfl, rfl, hMN, hat, hbel⟩ := hrel
    have Hat := Lib.hid hat
    have hTs := digs_size hat
    have hM3 : (M : Int) ≤ 9223372036854775807 := by omega
    clear hat
    by_cases hd : M % 16 < 10
    · have hd2 : (M : Int) % 16 < 10 := by omega
      have e := digC_lo (M % 16)  hd
      have hcs := fun W => run_one_string W (.int .u8 (48 + ((M % 16 : Nat) : Int))) _ e
      have ecast : ((M % 16 : Nat) : Int) = (M : Int) % 16 := by omega
      rw [ecast] at hcs
      by_cases hlt : M < 16
      · have hfin := digs_first Hat.out hlt
        have em : M % 16 = M := Nat.mod_eq_of_lt hlt
        rw [em] at hcs
        have Hfin := Lib.hid hfin
        have hdz : ((M : Int) / 16 == 0) = true := by rw [beq_iff_eq]; omega
        clear e hfin em ecast
        go_wp2
        go_ret
        refine ⟨ret_str Hfin.out, ?_⟩
        exact hbel.alloc hbel.size _
      · have hnx := digs_next (by omega) Hat.out (by omega) (by have := HN2.out; omega)
        have Hnx := Lib.hid hnx
        have hdz : ((M : Int) / 16 == 0) = false := by rw [beq_eq_false_iff_ne]; omega
        clear e hnx ecast
        go_wp2
        go_roundw
        case rel => exact ⟨M / 16, _, by go_num, rfl, by have := Nat.div_le_self M 16; omega, Hnx.out, hbel.alloc hbel.size _⟩
        case measure => simp [intOf]; omega
    · have hd2 : 10 ≤ (M : Int) % 16 := by omega
      have hd : 10 ≤ M % 16 := by omega
      have e := digC_hi (M % 16)  hd (by omega)
      have hcs := fun W => run_one_string W (.int .u8 (87 + ((M % 16 : Nat) : Int))) _ e
      have ecast : ((M % 16 : Nat) : Int) = (M : Int) % 16 := by omega
      rw [ecast] at hcs
      by_cases hlt : M < 16
      · have hfin := digs_first Hat.out hlt
        have em : M % 16 = M := Nat.mod_eq_of_lt hlt
        rw [em] at hcs
        have Hfin := Lib.hid hfin
        have hdz : ((M : Int) / 16 == 0) = true := by rw [beq_iff_eq]; omega
        clear e hfin em ecast
        go_wp2
        go_ret
        refine ⟨ret_str Hfin.out, ?_⟩
        exact hbel.alloc hbel.size _
      · have hnx := digs_next (by omega) Hat.out (by omega) (by have := HN2.out; omega)
        have Hnx := Lib.hid hnx
        have hdz : ((M : Int) / 16 == 0) = false := by rw [beq_eq_false_iff_ne]; omega
        clear e hnx ecast
        go_wp2
        go_roundw
        case rel => exact ⟨M / 16, _, by go_num, rfl, by have := Nat.div_le_self M 16; omega, Hnx.out, hbel.alloc hbel.size _⟩
        case measure => simp [intOf]; omega


set_option maxHeartbeats 4000000 in
theorem refPrint10_neg (b : Int) (n : Int) (h0 : n < 0) (hb : b ≠ 16) (w : World) :
    Calls Tryz.prog 87 #[.int .i64 n, .int .i64 b] w fun e w' => e = .returned (.string ⟨(digs 10 64 0).toArray⟩) ∧ Below w.heap.size w w' := by
  have hb2 : (b != 16) = true := by rw [bne_iff_ne]; exact hb
  have hcs := fun W => run_one_string W (.int .u8 48) 48 rfl
  go_enter Tryz.func87, Tryz.ntmps87
  go_wp2
  go_loopw [0, 5] (fun m t wr => m = .int .i64 0 ∧ t = .string ⟨#[]⟩ ∧ Below w.heap.size w wr) (fun m _ _ => (intOf m).toNat)
  case atStart => exact ⟨rfl, rfl, Below.refl _ _⟩
  case round =>
    obtain ⟨rfl, rfl, hbel⟩ := hrel
    go_wp2
    go_ret
    exact ⟨rfl, hbel.alloc hbel.size _⟩

set_option maxHeartbeats 4000000 in
theorem refPrint16_neg (n : Int) (h0 : n < 0) (w : World) :
    Calls Tryz.prog 87 #[.int .i64 n, .int .i64 16] w fun e w' => e = .returned (.string ⟨(digs 16 64 0).toArray⟩) ∧ Below w.heap.size w w' := by
  have hcs := fun W => run_one_string W (.int .u8 48) 48 rfl
  go_enter Tryz.func87, Tryz.ntmps87
  go_wp2
  go_loopw [0, 5] (fun m t wr => m = .int .i64 0 ∧ t = .string ⟨#[]⟩ ∧ Below w.heap.size w wr) (fun m _ _ => (intOf m).toNat)
  case atStart => exact ⟨rfl, rfl, Below.refl _ _⟩
  case round =>
    obtain ⟨rfl, rfl, hbel⟩ := hrel
    go_wp2
    go_ret
    exact ⟨rfl, hbel.alloc hbel.size _⟩

theorem refPrint_any (n b : Int) (h1 : n ≤ 9223372036854775807) (w : World) :
    Calls Tryz.prog 87 #[.int .i64 n, .int .i64 b] w fun e w' => e = .returned (.string ⟨(printN n b).toArray⟩) ∧ Below w.heap.size w w' := by
  unfold printN baseOf
  by_cases hn : n < 0
  · have e : n.toNat = 0 := by omega
    rw [e]
    by_cases hb : b = 16
    · subst hb; exact refPrint16_neg n hn w
    · rw [if_neg hb]; exact refPrint10_neg b n hn hb w
  · obtain ⟨N, rfl⟩ : ∃ N : Nat, n = N := ⟨n.toNat, by omega⟩
    have e : (N : Int).toNat = N := by omega
    rw [e]
    by_cases hb : b = 16
    · subst hb; exact refPrint16_nat N (by omega) w
    · rw [if_neg hb]; exact refPrint10_nat b N (by omega) hb w
end Go.Proofs.YtniiadhhefgmcaaGreatDoor
