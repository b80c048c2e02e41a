/- Walks of layer 19: a number at a place, by the document. Condition: at most 10^9 octets. -/
import Derived.Test.YtkodeeneljkgeaaDoorEn22
namespace Go.Proofs.YtkodeeneljkgeaaDoor
open Go.RowKit IH
set_option maxRecDepth 100000
theorem i64_wrap {m : Nat} (h : m < 18446744073709551616) : IntKind.i64.wrap (m : Int) = i64 m := by
  unfold i64
  by_cases h2 : m < 9223372036854775808
  · rw [if_pos h2]; exact IntWalk.i64_in _ ⟨by omega, by omega⟩
  · rw [if_neg h2]; simp [IntKind.wrap, show IntKind.i64.bits = 64 from rfl, show IntKind.i64.signed = true from rfl]; omega
set_option maxHeartbeats 4000000 in
theorem got_bad (B : Nat) (A : Option Addr) (n c : Nat) (l : List UInt8) (p k : Nat) (w : World) (_ : SliceIn w B 1 A n c (bytesV l)) (hn : n ≤ 1000000000) (hp : p ≤ 1000000000) (hk : k ≤ 8) (hb : n < p + k) :
    Calls Tryd.prog 20 #[.slice A n c, .int .i64 p, .int .i64 k] w fun e w' => e = .returned (.tuple #[.int .i64 0, .bool false]) ∧ w = w' := by
  have hw : IntKind.i64.wrap ((p : Int) + (k : Int)) = (p : Int) + (k : Int) := IntWalk.i64_in _ ⟨by omega, by omega⟩
  have hb2 : (n : Int) < (p : Int) + (k : Int) := by omega
  go_enter Tryd.func20, Tryd.ntmps20
  go_wp2
  go_ret2
  exact ⟨rfl, rfl⟩
set_option maxHeartbeats 4000000 in
theorem got_ok (B : Nat) (A : Option Addr) (n c : Nat) (l : List UInt8) (p k : Nat) (w : World) (hin : SliceIn w B 1 A n c (bytesV l)) (hn : n ≤ 1000000000) (hk : k ≤ 8) (hb : p + k ≤ n) :
    Calls Tryd.prog 20 #[.slice A n c, .int .i64 p, .int .i64 k] w fun e w' => e = .returned (.tuple #[.int .i64 (i64 (valB ((l.drop p).take k))), .bool true]) ∧ w = w' := by
  have hw : IntKind.i64.wrap ((p : Int) + (k : Int)) = (p : Int) + (k : Int) := IntWalk.i64_in _ ⟨by omega, by omega⟩
  have hb2 : ¬ (n : Int) < (p : Int) + (k : Int) := by omega
  have hln : l.length = n := by have := hin.1; rw [bytesV_length] at this; omega
  obtain ⟨T, hT⟩ : ∃ T, (l.drop p).take k = T := ⟨_, rfl⟩
  have hTl : T.length = k := by rw [← hT, List.length_take, List.length_drop]; omega
  have hTj : ∀ j, j < k → T[j]? = l[p + j]? := fun j hj => by rw [← hT, List.getElem?_take, if_pos hj, List.getElem?_drop]
  rw [hT]
  have HTl := Lib.hid hTl
  have HTj := Lib.hid hTj
  have HS := Lib.hid hin
  clear hin hT hTl hTj
  go_enter Tryd.func20, Tryd.ntmps20
  go_wp2
  go_loopw [8, 9] (fun x i wr => ∃ j : Nat, j ≤ k ∧ i = .int .i64 j ∧ x = .int .u64 (valB (T.take j)) ∧ wr = w) (fun _ i _ => k - (intOf i).toNat)
  case atStart => exact ⟨0, by omega, rfl, rfl, rfl⟩
  case round =>
    obtain ⟨j, hj, rfl, rfl, hwr⟩ := hrel
    subst wr
    by_cases hlt : j < k
    · obtain ⟨x, hx⟩ : ∃ x, T[j]? = some x := ⟨_, List.getElem?_eq_getElem (by rw [HTl.out]; exact hlt)⟩
      obtain ⟨b1, o1, rfl, _, hc1⟩ := HS.out.2.2.2 (by omega)
      have c0 := hc1 (p + j) (byteV x) (by rw [HTj.out j hlt] at hx; simp [bytesV, hx])
      unfold byteV at c0
      have hv := valB_lt (T.take j)
      have hsn : valB (T.take (j + 1)) = valB (T.take j) * 256 + x.toNat := by rw [List.take_add_one, hx]; exact valB_snoc _ _
      have hp : (256 : Nat) ^ (T.take j).length ≤ 256 ^ 7 := Nat.pow_le_pow_right (by omega) (by rw [List.length_take]; omega)
      have hm : valB (T.take j) < 72057594037927936 := Nat.lt_of_lt_of_le hv hp
      have HSN := Lib.hid hsn
      generalize valB (T.take j) = m at *
      have hxb := x.toNat_lt
      clear hc1 hx hv hsn hp
      have w1 : IntKind.u64.wrap ((m : Int) * 256) = (m : Int) * 256 := by simp [IntKind.wrap, show IntKind.u64.bits = 64 from rfl, show IntKind.u64.signed = false from rfl]; omega
      have w2 : IntKind.u64.wrap ((m : Int) * 256 + (x.toNat : Int)) = (m : Int) * 256 + (x.toNat : Int) := by simp [IntKind.wrap, show IntKind.u64.bits = 64 from rfl, show IntKind.u64.signed = false from rfl]; omega
      have w3 : IntKind.i64.wrap ((p : Int) + (j : Int)) = (p : Int) + (j : Int) := IntWalk.i64_in _ ⟨by omega, by omega⟩
      go_wp2
      go_roundw
      case rel => exact ⟨j + 1, by omega, by go_num, by rw [HSN.out]; simp, by first | trivial | rfl⟩
      case measure => simp [intOf]; omega
    · obtain rfl : k = j := by omega
      have hv := valB_lt T
      have hp : (256 : Nat) ^ T.length ≤ 256 ^ 8 := Nat.pow_le_pow_right (by omega) (by rw [HTl.out]; omega)
      have hm : valB T < 18446744073709551616 := Nat.lt_of_lt_of_le hv hp
      have e1 : T.take k = T := List.take_of_length_le (by rw [HTl.out]; omega)
      rw [e1]
      have hwm := i64_wrap hm
      clear hv hp e1
      go_wp2
      go_ret2
      exact ⟨rfl, rfl⟩
end Go.Proofs.YtkodeeneljkgeaaDoor
