/- Walk of script.Quote: octets between quotation marks. Condition: at most 2^24 octets. -/
import Derived.Test.YtaddefjkjlkjnaaDoorScr1
import Derived.Test.YtaddefjkjlkjnaaDoorBuild
namespace Go.Proofs.YtaddefjkjlkjnaaDoor
open Go.RowKit IH
set_option maxRecDepth 100000

theorem codes_length (l : List UInt8) : (l.flatMap code).length ≤ 4 * l.length := by
  induction l with
  | nil => simp
  | cons c l ih =>
    have := (code_length c).2
    rw [List.flatMap_cons, List.length_append, List.length_cons]
    omega

set_option maxHeartbeats 8000000 in
theorem Quote_any (A : Option Addr) (n c : Nat) (l : List UInt8) (w : World) (hin : SliceIn w w.heap.size 1 A n c (bytesV l)) (hs : n ≤ 16777216) :
    Calls Tryd.prog 121 #[.slice A n c] w fun e w' => e = .returned (.string ⟨(quote27 l).toArray⟩) ∧ Below w.heap.size w w' := by
  have hL : l.length = n := by have := hin.1; rw [bytesV_length, Nat.mul_one] at this; exact this
  go_enter Tryd.func121, Tryd.ntmps121
  go_wp2_with (first | (go_at_call 155; refine (WriteByte_any w.heap.size w.heap.size [] 34 _ (Bld.new w) (by simp) (by simp)).mono ?_; rintro e w1 ⟨rfl, hbld, hbel⟩))
  have HB := Lib.hid hbld; clear hbld
  have hbel0 : Below w.heap.size w w1 := ((Below.refl _ _).alloc (Nat.le_refl _) _).trans hbel
  have HL := Lib.hid hbel0; clear hbel hbel0
  go_loopw [9] (fun i wr => ∃ k : Nat, k ≤ n ∧ i = .int .i64 k ∧ Bld wr w.heap.size w.heap.size (34 :: (l.take k).flatMap code) ∧ Below w.heap.size w wr) (fun i _ => n - (intOf i).toNat)
  case atStart => exact ⟨0, by omega, rfl, HB.out, HL.out⟩
  case round =>
    clear HB HL
    obtain ⟨k, hk, rfl, hbld, hbel⟩ := hrel
    have Hbld := Lib.hid hbld; clear hbld
    have hsz := hbel.size
    by_cases hlt : k < n
    · obtain ⟨x, hx⟩ : ∃ x, l[k]? = some x := ⟨_, List.getElem?_eq_getElem (by omega)⟩
      obtain ⟨b, off, rfl, hb, hc⟩ := hin.2.2.2 (by omega)
      have hcell : wr.cell? ⟨b, off + k, none⟩ = some (.int .u8 x.toNat) := by
        rw [hbel.cell (p := ⟨b, off + k, none⟩) hb]
        exact hc _ _ (by simp [bytesV, hx, byteV])
      have hstep : (l.take (k + 1)).flatMap code = (l.take k).flatMap code ++ code x := by rw [List.take_add_one, hx]; simp
      have Hstep := Lib.hid hstep; clear hstep hc hx
      have hlen : (34 :: (l.take k).flatMap code).length + (⟨(code x).toArray⟩ : ByteArray).size ≤ 140737488355328 := by
        have h1 := codes_length (l.take k)
        have h2 := List.length_take_le k l
        have h3 : (⟨(code x).toArray⟩ : ByteArray).size = (code x).length := rfl
        have h4 := (code_length x).2
        rw [h3, List.length_cons]
        omega
      have Hlen := Lib.hid hlen; clear hlen
      go_wp2_with (first
        | (go_at_call 156; (with_reducible refine (coded_any x _).mono ?_); rintro e w2 ⟨rfl, hb2⟩; have hb3 := Hbld.out.below hb2; have Hb3 := Lib.hid hb3; clear hb3; have hb4 := hbel.trans (hb2.mono hsz))
        | (go_at_call 76; refine (WriteString_any w.heap.size w.heap.size _ _ _ Hb3.out Hlen.out hb4.size).mono ?_; rintro e w3 ⟨rfl, hb5, hb6⟩; have Hb5 := Lib.hid hb5; clear hb5; have hb7 := hb4.trans hb6))
      go_roundw
      case rel => exact ⟨k + 1, by omega, by go_num, by rw [Hstep.out]; simpa using Hb5.out, hb7⟩
      case measure => simp [intOf]; omega
    · obtain rfl : k = n := by omega
      have e : l.take k = l := List.take_of_length_le (by omega)
      rw [e] at Hbld
      clear e
      have hlen : (34 :: l.flatMap code).length + 1 ≤ 140737488355328 := by
        have h1 := codes_length l
        rw [List.length_cons]
        omega
      have Hlen := Lib.hid hlen; clear hlen
      go_wp2_with (first
        | (go_at_call 155; refine (WriteByte_any w.heap.size w.heap.size _ 34 _ Hbld.out Hlen.out hsz).mono ?_; rintro e w2 ⟨rfl, hb2, hb3⟩; have Hb2 := Lib.hid hb2; clear hb2; have hb4 := hbel.trans hb3)
        | (go_at_call 79; refine (String_any w.heap.size w.heap.size _ _ Hb2.out hb4.size).mono ?_; rintro e w3 ⟨rfl, hb5⟩; have hb6 := hb4.trans hb5))
      go_ret
      exact ⟨by simp [quote27], hb6⟩
end Go.Proofs.YtaddefjkjlkjnaaDoor
