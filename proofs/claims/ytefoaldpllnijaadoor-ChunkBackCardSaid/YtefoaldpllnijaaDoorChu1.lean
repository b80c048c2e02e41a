/- Walks of layer 7: bytes.IndexByte at lists, a line, by the code. Condition: at most 10^9 octets. -/
import Derived.Test.YtefoaldpllnijaaDoorFie10
import Derived.Test.YtefoaldpllnijaaDoorOct8
import Derived.Test.YtefoaldpllnijaaDoorOct12
import Derived.Test.YtefoaldpllnijaaDoorCk
namespace Go.Proofs.YtefoaldpllnijaaDoor
open Go.RowKit IH
set_option maxRecDepth 100000
theorem ixByte_find (c : UInt8) (l : List UInt8) : Lib.indexByte l c = match l.findIdx? (· == c) with | none => -1 | some n => (n : Int) := by
  induction l with
  | nil => rfl
  | cons x a ih =>
    unfold Lib.indexByte
    rw [List.findIdx?_cons]
    cases h : x == c with
    | true => simp
    | false =>
      rw [ih]
      cases hf : a.findIdx? (· == c) with
      | none => simp
      | some n =>
        have h3 : ((n : Int) == -1) = false := by rw [beq_eq_false_iff_ne]; omega
        simp [h3]
theorem bIndexByte_at {B : Nat} (b o n c : Nat) (l : List UInt8) (W : World) (h : SliceIn W B 1 (some ⟨b, o, none⟩) n c (bytesV l)) :
    Calls Tryd.prog 93 #[.slice (some ⟨b, o, none⟩) n c, .int .u8 10] W fun e w' => e = .returned (.int .i64 (Lib.indexByte l 10)) ∧ W = w' := by
  obtain ⟨x1, x2⟩ := nats_cells h
  have := Tryd.bytes_IndexByte_at ⟨b, o, none⟩ n c (natsI l) 10 W x1 x2
  rw [bytesOf_nats] at this
  refine this.mono ?_
  rintro e w' ⟨rfl, rfl⟩
  exact ⟨rfl, rfl⟩
set_option maxHeartbeats 4000000 in
theorem cline_any (b0 off n c B : Nat) (l : List UInt8) (w : World) (hin : SliceIn w B 1 (some ⟨b0, off, none⟩) n c (bytesV l)) (hn : n ≤ 1000000000) :
    Calls Tryd.prog 74 #[.slice (some ⟨b0, off, none⟩) n c] w fun e w' => e = .returned (.tuple #[.string ⟨(lineC l).1.toArray⟩, .int .i64 (lineC l).2.1, .int .i64 (lineC l).2.2]) ∧ Below w.heap.size w w' := by
  have hnc := hin.2.1
  have hll : l.length = n := by have := hin.1; rw [bytesV_length, Nat.mul_one] at this; exact this
  obtain ⟨m, hm⟩ : ∃ m, min n 256 = m := ⟨_, rfl⟩
  have hmn : m ≤ n := by omega
  have hmI : min (n : Int) 256 = (m : Int) := by omega
  have hsub := hin.sub (a := 0) (b := m) (by omega) hmn (some ⟨b0, off, none⟩) (fun _ => by simp [add_plain])
  simp only [Nat.sub_zero, Nat.mul_one, List.drop_zero] at hsub
  rw [show (bytesV l).take m = bytesV (l.take m) by simp [bytesV, List.map_take]] at hsub
  have htk : l.take m = l.take 256 := by
    by_cases h : n ≤ 256
    · rw [List.take_of_length_le (by omega), List.take_of_length_le (by omega)]
    · rw [show m = 256 by omega]
  rw [htk] at hsub
  have IX := bIndexByte_at b0 off m c (l.take 256) w hsub
  rw [ixByte_find] at IX
  have j0 : m ≤ c := by omega
  have jI : (m : Int) ≤ (c : Int) := by omega
  clear hsub htk
  unfold lineC
  cases hf : (l.take 256).findIdx? (· == 10) with
  | none =>
    rw [hf] at IX
    simp only at IX ⊢
    replace IX := Lib.hid IX
    clear hf hin
    by_cases h1 : 256 ≤ l.length
    · rw [if_pos h1]
      have k1 : (256 : Int) ≤ (n : Int) := by omega
      clear h1 hll
      go_enter Tryd.func74, Tryd.ntmps74
      go_wp2_with (go_at_call 93; refine IX.out.mono ?_; rintro e w2 ⟨rfl, rfl⟩)
      go_ret3
      exact ⟨rfl, by first | exact Below.refl _ _ | exact below_drewN (Below.refl _ _) 1⟩
    · rw [if_neg h1]
      have k1 : ¬ (256 : Int) ≤ (n : Int) := by omega
      clear h1 hll
      go_enter Tryd.func74, Tryd.ntmps74
      go_wp2_with (go_at_call 93; refine IX.out.mono ?_; rintro e w2 ⟨rfl, rfl⟩)
      go_ret3
      exact ⟨rfl, by first | exact Below.refl _ _ | exact below_drewN (Below.refl _ _) 1⟩
  | some k =>
    rw [hf] at IX
    simp only at IX ⊢
    have hk := findIdx_lt hf
    rw [List.length_take] at hk
    replace IX := Lib.hid IX
    clear hf
    by_cases h0 : k = 0
    · subst h0
      rw [if_pos (.inl rfl)]
      clear hin
      go_enter Tryd.func74, Tryd.ntmps74
      go_wp2_with (go_at_call 93; refine IX.out.mono ?_; rintro e w2 ⟨rfl, rfl⟩)
      go_ret3
      exact ⟨rfl, by first | exact Below.refl _ _ | exact below_drewN (Below.refl _ _) 1⟩
    · obtain ⟨x, hx⟩ : ∃ x, l[k - 1]? = some x := ⟨_, List.getElem?_eq_getElem (by omega)⟩
      rw [hx]
      obtain ⟨j, rfl⟩ : ∃ j, k = j + 1 := ⟨k - 1, by omega⟩
      have e1 : j + 1 - 1 = j := by omega
      rw [e1] at hx
      have hcell : w.cell? ⟨b0, off + j, none⟩ = some (.int .u8 x.toNat) := by
        obtain ⟨b', o', e, _, hc⟩ := hin.2.2.2 (by omega)
        simp only [Option.some.injEq, Addr.mk.injEq, and_true] at e
        obtain ⟨rfl, rfl⟩ := e
        exact hc j (.int .u8 x.toNat) (by rw [bytesV_get, hx]; rfl)
      have i1 : ((j + 1 : Nat) : Int) - 1 = (j : Int) := by omega
      have i2 : (j : Int) < (n : Int) := by omega
      have i0 : (((j + 1 : Nat) : Int) == 0) = false := by rw [beq_eq_false_iff_ne]; omega
      have i3 : (j : Int) ≤ (n : Int) := by omega
      have j3 : j ≤ c := by omega
      have j4 : j < n := by omega
      by_cases h13 : x = 13
      · subst h13
        rw [if_neg (by rintro (h | h); omega; exact h rfl), e1]
        have hs2 := hin.sub (a := 0) (b := j) (by omega) (by omega) (some ⟨b0, off, none⟩) (fun _ => by simp [add_plain])
        simp only [Nat.sub_zero, Nat.mul_one, List.drop_zero] at hs2
        rw [show (bytesV l).take j = bytesV (l.take j) by simp [bytesV, List.map_take]] at hs2
        have hcs := run_string_of (P := Tryd.prog) hs2 22 9 5 Tryd.underlying22 Tryd.underlying5 Tryd.underlying9
        have e13 : (((13 : UInt8).toNat : Int) == 13) = true := rfl
        generalize (⟨(l.take j).toArray⟩ : ByteArray) = X at *
        clear hs2 hin hx
        go_enter Tryd.func74, Tryd.ntmps74
        go_wp2_with (go_at_call 93; refine IX.out.mono ?_; rintro e w2 ⟨rfl, rfl⟩)
        go_ret3
        exact ⟨rfl, by first | exact Below.refl _ _ | exact below_drewN (Below.refl _ _) 1⟩
      · rw [if_pos (.inr fun h => h13 (Option.some.inj h))]
        have e13 : ((x.toNat : Int) == 13) = false := by rw [beq_eq_false_iff_ne]; intro h; exact h13 (UInt8.toNat_inj.1 (by have : (13 : UInt8).toNat = 13 := rfl; omega))
        have n13 : ((x.toNat : Int) != 13) = true := by rw [bne, e13]; rfl
        clear hin hx
        go_enter Tryd.func74, Tryd.ntmps74
        go_wp2_with (go_at_call 93; refine IX.out.mono ?_; rintro e w2 ⟨rfl, rfl⟩)
        go_ret3
        exact ⟨rfl, by first | exact Below.refl _ _ | exact below_drewN (Below.refl _ _) 1⟩
end Go.Proofs.YtefoaldpllnijaaDoor
