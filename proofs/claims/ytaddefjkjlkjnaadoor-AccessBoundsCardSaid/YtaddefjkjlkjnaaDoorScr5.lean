/- Walks of icehouseref27.Code and Quote: the document's quoting. Condition: at most 2^24 octets. -/
import Derived.Test.YtaddefjkjlkjnaaDoorScr2
import Derived.Test.YtaddefjkjlkjnaaDoorScr3
namespace Go.Proofs.YtaddefjkjlkjnaaDoor
open Go.RowKit IH
set_option maxRecDepth 100000

theorem digit_ix : ((List.range 16).all fun n => (⟨#[48, 49, 50, 51, 52, 53, 54, 55, 56, 57, 97, 98, 99, 100, 101, 102]⟩ : ByteArray).data.toList[n]? == some (digC n)) = true := by decide +kernel
theorem digit_at (n : Nat) (hn : n < 16) (h : n < (⟨#[48, 49, 50, 51, 52, 53, 54, 55, 56, 57, 97, 98, 99, 100, 101, 102]⟩ : ByteArray).size) : (⟨#[48, 49, 50, 51, 52, 53, 54, 55, 56, 57, 97, 98, 99, 100, 101, 102]⟩ : ByteArray)[n] = digC n := by
  have h1 := eq_of_beq (List.all_eq_true.1 digit_ix n (List.mem_range.2 hn))
  rw [get_data _ n h] at h1
  exact Option.some.inj h1

set_option maxHeartbeats 8000000 in
theorem refCode_any (c : UInt8) (w : World) :
    Calls Tryd.prog 110 #[.int .u8 c.toNat] w fun e w' => e = .returned (.string ⟨(code c).toArray⟩) ∧ Below w.heap.size w w' := by
  have hc : (c.toNat : Int) ≤ 255 := by have := c.toNat_lt; omega
  by_cases h13 : c.toNat = 13
  · have hcode : code c = [92, 114] := by
      have : isPlain27 c = false := by simp [isPlain27, h13]
      unfold code; rw [this, if_neg (by decide), if_pos h13]
    rw [hcode]
    have e1 : ((c.toNat : Int) == 13) = true := by simp; omega
    clear h13 hcode
    go_enter Tryd.func110, Tryd.ntmps110
    go_wp2
    go_ret
    exact ⟨rfl, Below.refl _ _⟩
  · have e1 : ((c.toNat : Int) == 13) = false := by simp; omega
    by_cases h10 : c.toNat = 10
    · have hcode : code c = [92, 110] := by
        have : isPlain27 c = false := by simp [isPlain27, h10]
        unfold code; rw [this, if_neg (by decide), if_neg h13, if_pos h10]
      rw [hcode]
      have e2 : ((c.toNat : Int) == 10) = true := by simp; omega
      clear h13 h10 hcode
      go_enter Tryd.func110, Tryd.ntmps110
      go_wp2
      go_ret
      exact ⟨rfl, Below.refl _ _⟩
    · have e2 : ((c.toNat : Int) == 10) = false := by simp; omega
      by_cases hq : c.toNat = 34 ∨ c.toNat = 92
      · have hcode : code c = [92, c] := by
          have : isPlain27 c = false := by rcases hq with h | h <;> simp [isPlain27, h]
          unfold code; rw [this, if_neg (by decide), if_neg h13, if_neg h10, if_pos hq]
        rw [hcode]
        have hs : (convert 22 9 (.slice (some ⟨w.heap.size, 0, none⟩) 2 2)).run Tryd.prog (w.alloc (.cells #[.int .u8 92, .int .u8 c.toNat] 5)) = .ok (.string ⟨#[92, c]⟩) (w.alloc (.cells #[.int .u8 92, .int .u8 c.toNat] 5)) :=
          run_string_of (P := Tryd.prog) ((RowAt.new w 5 (bytesV [92, c])).slice (size := 1) (n := 2) (c := 2) rfl (Nat.le_refl _) (by decide)) 22 9 5 Tryd.underlying22 Tryd.underlying5 Tryd.underlying9
        by_cases h34 : c.toNat = 34
        · have e3 : ((c.toNat : Int) == 34) = true := by simp; omega
          clear h34 hq hcode h13 h10
          go_enter Tryd.func110, Tryd.ntmps110
          go_wp2
          go_ret
          exact ⟨rfl, (Below.refl _ _).alloc (Nat.le_refl _) _⟩
        · have e3 : ((c.toNat : Int) == 34) = false := by simp; omega
          have e4 : ((c.toNat : Int) == 92) = true := by simp; omega
          clear h34 hq hcode h13 h10
          go_enter Tryd.func110, Tryd.ntmps110
          go_wp2
          go_ret
          exact ⟨rfl, (Below.refl _ _).alloc (Nat.le_refl _) _⟩
      · have e3 : ((c.toNat : Int) == 34) = false := by simp; omega
        have e4 : ((c.toNat : Int) == 92) = false := by simp; omega
        by_cases hr : 32 ≤ c.toNat ∧ c.toNat ≤ 126
        · have hcode : code c = [c] := by
            have : isPlain27 c = true := by simp [isPlain27]; omega
            unfold code; rw [if_pos this]
          rw [hcode]
          have hs := run_string_of (P := Tryd.prog) ((RowAt.new w 5 (bytesV [c])).slice (size := 1) (n := 1) (c := 1) rfl (Nat.le_refl _) (by decide)) 22 9 5 Tryd.underlying22 Tryd.underlying5 Tryd.underlying9
          simp only [bytesV, byteV, List.map_cons, List.map_nil] at hs
          obtain ⟨r1, r2⟩ := hr
          clear hq hcode h13 h10
          go_enter Tryd.func110, Tryd.ntmps110
          go_wp2
          go_ret
          exact ⟨rfl, (Below.refl _ _).alloc (Nat.le_refl _) _⟩
        · have hcode : code c = [92, 120, digC (c.toNat / 16), digC (c.toNat % 16)] := by
            have : isPlain27 c = false := by simp [isPlain27]; omega
            unfold code; rw [this, if_neg (by decide), if_neg h13, if_neg h10, if_neg hq]
          rw [hcode]
          have d1 := digit_at (c.toNat / 16) (by omega)
          have d2 := digit_at (c.toNat % 16) (by omega)
          have hrow : SliceIn (w.alloc (.cells #[.int .u8 92, .int .u8 120, .int .u8 (digC (c.toNat / 16)).toNat, .int .u8 (digC (c.toNat % 16)).toNat] 5)).drew (w.alloc (.cells #[.int .u8 92, .int .u8 120, .int .u8 (digC (c.toNat / 16)).toNat, .int .u8 (digC (c.toNat % 16)).toNat] 5)).heap.size 1 (some ⟨w.heap.size, 0, none⟩) 4 4 (bytesV [92, 120, digC (c.toNat / 16), digC (c.toNat % 16)]) :=
            (RowAt.new w 5 (bytesV [92, 120, digC (c.toNat / 16), digC (c.toNat % 16)])).slice (size := 1) (n := 4) (c := 4) rfl (Nat.le_refl _) (by decide)
          have hs : (convert 22 9 (.slice (some ⟨w.heap.size, 0, none⟩) 4 4)).run Tryd.prog (w.alloc (.cells #[.int .u8 92, .int .u8 120, .int .u8 (digC (c.toNat / 16)).toNat, .int .u8 (digC (c.toNat % 16)).toNat] 5)).drew = .ok (.string ⟨#[92, 120, digC (c.toNat / 16), digC (c.toNat % 16)]⟩) (w.alloc (.cells #[.int .u8 92, .int .u8 120, .int .u8 (digC (c.toNat / 16)).toNat, .int .u8 (digC (c.toNat % 16)).toNat] 5)).drew :=
            run_string_of (P := Tryd.prog) hrow 22 9 5 Tryd.underlying22 Tryd.underlying5 Tryd.underlying9
          clear hrow
          have hsz : (⟨#[48, 49, 50, 51, 52, 53, 54, 55, 56, 57, 97, 98, 99, 100, 101, 102]⟩ : ByteArray).size = 16 := rfl
          have b1 : (c.toNat : Int) / 16 < 16 := by omega
          have b2 : (0 : Int) ≤ (c.toNat : Int) / 16 := by omega
          have b3 : (c.toNat : Int) % 16 < 16 := by omega
          have b4 : (0 : Int) ≤ (c.toNat : Int) % 16 := by omega
          have b5 : ((c.toNat : Int) / 16).toNat = c.toNat / 16 := by omega
          have b6 : ((c.toNat : Int) % 16).toNat = c.toNat % 16 := by omega
          have b7 : IntKind.u8.wrap ((c.toNat : Int) / 16) = (c.toNat : Int) / 16 := IntWalk.u8_in _ (by omega)
          have b8 : IntKind.u8.wrap ((c.toNat : Int) % 16) = (c.toNat : Int) % 16 := IntWalk.u8_in _ (by omega)
          by_cases hr2 : c.toNat < 32
          · clear hq hcode h13 h10 hr
            go_enter Tryd.func110, Tryd.ntmps110
            go_wp2
            go_region
            go_wp2
            go_ret
            exact ⟨rfl, ((Below.refl _ _).alloc (Nat.le_refl _) _).drew⟩
          · have hr3 : 126 < c.toNat := by omega
            clear hq hcode h13 h10 hr hr2
            go_enter Tryd.func110, Tryd.ntmps110
            go_wp2
            go_region
            go_wp2
            go_ret
            exact ⟨rfl, ((Below.refl _ _).alloc (Nat.le_refl _) _).drew⟩

set_option maxHeartbeats 8000000 in
theorem refQuote_any (A : Option Addr) (n c : Nat) (l : List UInt8) (w : World) (hin : SliceIn w w.heap.size 1 A n c (bytesV l)) (hs : n ≤ 16777216) :
    Calls Tryd.prog 72 #[.slice A n c] w fun e w' => e = .returned (.string ⟨(quote27 l).toArray⟩) ∧ Below w.heap.size w w' := by
  have hL : l.length = n := by have := hin.1; rw [bytesV_length, Nat.mul_one] at this; exact this
  go_enter Tryd.func72, Tryd.ntmps72
  go_wp2
  go_loopw [3, 4] (fun v i wr => ∃ (k : Nat) (S : ByteArray), k ≤ n ∧ i = .int .i64 k ∧ v = .string S ∧ S.data.toList = 34 :: (l.take k).flatMap code ∧ Below w.heap.size w wr) (fun _ i _ => n - (intOf i).toNat)
  case atStart => exact ⟨0, ⟨#[34]⟩, by omega, rfl, rfl, rfl, Below.refl _ _⟩
  case round =>
    obtain ⟨k, S, hk, rfl, rfl, hS, hbel⟩ := hrel
    have hsz := hbel.size
    have hSl : S.size ≤ 67108865 := by
      rw [← data_len, hS, List.length_cons]
      have h1 := codes_length (l.take k)
      have h2 := List.length_take_le k l
      omega
    by_cases hlt : k < n
    · obtain ⟨x, hx⟩ : ∃ x, l[k]? = some x := ⟨_, List.getElem?_eq_getElem (by omega)⟩
      obtain ⟨b, off, rfl, hb, hc⟩ := hin.2.2.2 (by omega)
      have hcell : wr.cell? ⟨b, off + k, none⟩ = some (.int .u8 x.toNat) := by
        rw [hbel.cell (p := ⟨b, off + k, none⟩) hb]
        exact hc _ _ (by simp [bytesV, hx, byteV])
      obtain ⟨C, hC⟩ : ∃ C : ByteArray, C.data.toList = code x := ⟨⟨(code x).toArray⟩, rfl⟩
      have hCs : C.size ≤ 4 := by rw [← data_len, hC]; exact (code_length x).2
      have hstep : (S ++ C).data.toList = 34 :: (l.take (k + 1)).flatMap code := by
        rw [append_data, hS, hC, List.take_add_one, hx]; simp
      have Hstep := Lib.hid hstep
      have HC := Lib.hid hC
      clear hstep hc hx hS hC
      go_wp2_with (go_at_call 110; (with_reducible refine (refCode_any x _).mono ?_); rintro e w2 ⟨rfl, hb2⟩; rw [← bytes_eq HC.out]; have hb3 := below_step hbel hb2; clear hb2)
      go_roundw
      case rel => exact ⟨k + 1, S ++ C, by omega, by go_num, rfl, Hstep.out, hb3⟩
      case measure => simp [intOf]; omega
    · obtain rfl : k = n := by omega
      have e : l.take k = l := List.take_of_length_le (by omega)
      rw [e] at hS
      have HS := Lib.hid hS; clear hS e
      go_wp2
      go_ret
      exact ⟨ret_str (bytes_inj (by rw [append_data, HS.out]; simp [quote27])), hbel⟩
end Go.Proofs.YtaddefjkjlkjnaaDoor
