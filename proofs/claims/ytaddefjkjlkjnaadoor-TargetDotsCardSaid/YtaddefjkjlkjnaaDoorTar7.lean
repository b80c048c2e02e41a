/- Walk of layer 5: octets made normal, by the code. Condition: at most 10^8 octets. -/
import Derived.Test.YtaddefjkjlkjnaaDoorTar5
import Derived.Test.YtaddefjkjlkjnaaDoorBuild
namespace Go.Proofs.YtaddefjkjlkjnaaDoor
open Go.RowKit IH
set_option maxRecDepth 100000
theorem hexN_nat (a b : UInt8) (ha : isHex a = true) (hb : isHex b = true) : (hexN a b).toNat = dig a * 16 + dig b := by
  have h1 := dig_lt a ha
  have h2 := dig_lt b hb
  unfold hexN
  rw [UInt8.toNat_ofNat']
  omega
def moreOf (q : Bool) : List UInt8 := if q then [63] else []
theorem of_more (q : Bool) (c : UInt8) : ofL [freeT, subs5, moreT, moreOf q] c = okC q c := of_coded q c
theorem data_drop2 (s : ByteArray) (k : Nat) (h : k + 2 < s.size) : s.data.toList.drop k = s[k] :: s[k + 1] :: s[k + 2] :: s.data.toList.drop (k + 3) := by
  rw [data_drop s k (by omega), data_drop s (k + 1) (by omega), data_drop s (k + 2) h]
set_option maxHeartbeats 16000000 in
theorem coded5_any (s : ByteArray) (hs : s.size ≤ 100000000) (q : Bool) (w : World) :
    Calls Tryd.prog 139 #[.string s, .string ⟨(moreOf q).toArray⟩] w fun e w' => e = .returned (.tuple #[.string ⟨((codedL q s.data.toList).getD []).toArray⟩, .bool (codedL q s.data.toList).isSome]) ∧ Below w.heap.size w w' := by
  obtain ⟨M, hM⟩ : ∃ M : ByteArray, (⟨(moreOf q).toArray⟩ : ByteArray) = M := ⟨_, rfl⟩
  have OC := Lib.hid (fun (c : UInt8) (W : World) => of_any c (some ⟨W.heap.size, 0, none⟩) 4 4 [freeT, subs5, moreT, moreOf q] (W.alloc (.cells #[.string ⟨#[45, 46, 95, 126]⟩, .string ⟨#[33, 36, 38, 39, 40, 41, 42, 43, 44, 59, 61]⟩, .string ⟨#[58, 64, 47]⟩, .string M] 9))
    (by
      rw [show strsV [freeT, subs5, moreT, moreOf q] = [.string ⟨#[45, 46, 95, 126]⟩, .string ⟨#[33, 36, 38, 39, 40, 41, 42, 43, 44, 59, 61]⟩, .string ⟨#[58, 64, 47]⟩, .string M] from by rw [← hM]; rfl]
      exact (RowAt.new W 9 [.string ⟨#[45, 46, 95, 126]⟩, .string ⟨#[33, 36, 38, 39, 40, 41, 42, 43, 44, 59, 61]⟩, .string ⟨#[58, 64, 47]⟩, .string M]).slice (size := 1) (n := 4) (c := 4) rfl (Nat.le_refl _) (by simp [maxLen])) (by omega))
  have OF := Lib.hid (fun (c : UInt8) (W : World) => of_any c (some ⟨W.heap.size, 0, none⟩) 1 1 [freeT] (W.alloc (.cells #[.string ⟨#[45, 46, 95, 126]⟩] 9))
    ((RowAt.new W 9 [.string ⟨#[45, 46, 95, 126]⟩]).slice (size := 1) (n := 1) (c := 1) rfl (Nat.le_refl _) (by simp [maxLen])) (by omega))
  rw [hM]
  clear hM
  obtain ⟨U, hU⟩ : ∃ U, codedL q s.data.toList = U := ⟨_, rfl⟩
  have HU0 : Hid (U = codedR q [] s.data.toList) := Lib.hid (by rw [← hU]; simp [codedR])
  rw [hU]
  clear hU
  obtain ⟨g0, hg0⟩ : ∃ g0, w.heap.size = g0 := ⟨_, rfl⟩
  have HB0 := Lib.hid (Bld.new w)
  have HL0 : Hid (Below g0 w (w.alloc (.cells #[.pointer none, .slice none 0 0] 113))) := Lib.hid (by rw [← hg0]; exact (Below.refl _ _).alloc (Nat.le_refl _) _)
  rw [hg0] at HB0
  rw [hg0]
  go_enter Tryd.func139, Tryd.ntmps139
  go_wp2
  go_loopw [7] (fun i wr => ∃ (k : Nat) (P : List UInt8), k ≤ s.size ∧ i = .int .i64 k ∧ U = codedR q P (s.data.toList.drop k) ∧ P.length ≤ 3 * k ∧ Bld wr g0 g0 P ∧ Below g0 w wr) (fun i _ => s.size - (intOf i).toNat)
  case atStart => exact ⟨0, [], by omega, rfl, HU0.out, by simp, HB0.out, HL0.out⟩
  case round =>
    clear HB0 HL0 HU0
    obtain ⟨w0, rfl⟩ : ∃ w0 : World, w0 = wr := ⟨_, rfl⟩
    obtain ⟨k, P, hk, rfl, hat, hP, hbld, hbel⟩ := hrel
    have HB := Lib.hid hbld
    have HL := Lib.hid hbel
    have hgs : g0 ≤ w0.heap.size := by rw [← hg0]; exact hbel.size
    clear hbld hbel
    by_cases hlt : k < s.size
    · obtain ⟨c, hc⟩ : ∃ c, s[k] = c := ⟨_, rfl⟩
      have kI : (k : Int) < (s.size : Int) := by omega
      by_cases h37 : c = 37
      · subst h37
        have e37 : (((37 : UInt8).toNat : Int) == 37) = true := by decide
        have e37' : (((37 : UInt8).toNat : Int) != 37) = false := by decide
        have w3 : IntKind.i64.wrap ((k : Int) + 3) = (k : Int) + 3 := IntWalk.i64_in _ ⟨by omega, by omega⟩
        by_cases h3 : s.size < k + 3
        · have hu : U = none := by
            rw [hat, data_drop s k hlt, hc]
            exact codedR_short q P _ (by rw [List.length_drop, data_len]; omega)
          have HU := Lib.hid hu
          have h3I : (s.size : Int) < (k : Int) + 3 := by omega
          clear hat hu
          go_wp2
          go_ret2
          rw [HU.out]
          exact ⟨rfl, HL.out⟩
        · have h3I : (k : Int) + 3 ≤ (s.size : Int) := by omega
          have hk2 : k + 2 < s.size := by omega
          obtain ⟨a, ha⟩ : ∃ a, s[k + 1] = a := ⟨_, rfl⟩
          obtain ⟨b, hb⟩ : ∃ b, s[k + 2] = b := ⟨_, rfl⟩
          have hd := data_drop2 s k hk2
          rw [hc, ha, hb] at hd
          rw [hd] at hat
          have w1 : IntKind.i64.wrap ((k : Int) + 1) = (k : Int) + 1 := IntWalk.i64_in _ ⟨by omega, by omega⟩
          have w2 : IntKind.i64.wrap ((k : Int) + 2) = (k : Int) + 2 := IntWalk.i64_in _ ⟨by omega, by omega⟩
          have hxl : (s.extract (k + 1) (k + 3)).data.toList = [a, b] := by
            rw [Lib.extract_data, data_drop s (k + 1) (by omega), data_drop s (k + 2) hk2, ha, hb, show k + 3 - (k + 1) = 2 by omega]; rfl
          have HX := fun W => Hex_any (s.extract (k + 1) (k + 3)) (by rw [← data_len, hxl]; show 2 ≤ _; omega) 255 (by omega) (by omega) W
          rw [hxl, hex2] at HX
          have h13 : k + 1 ≤ k + 3 := by omega
          clear hd hxl
          by_cases hh : isHex a = true ∧ isHex b = true
          · rw [if_pos hh] at HX
            have hN := hexN_nat a b hh.1 hh.2
            have hcod := codedR_hex q P (s.data.toList.drop (k + 3)) a b hh.1 hh.2
            rw [hcod] at hat
            have hNlt : (hexN a b).toNat < 256 := (hexN a b).toNat_lt
            rw [← hN] at HX
            obtain ⟨d, hd⟩ : ∃ d, hexN a b = d := ⟨_, rfl⟩
            have hdo : ofL [freeT] d = free5 d := of_free d
            have hen : enc5 a b = if free5 d = true then [d] else [37, greatC a, greatC b] := by unfold enc5; rw [hd]
            have hel := enc_length a b
            rw [hd] at HX hNlt
            have wd : IntKind.u8.wrap ((d.toNat : Nat) : Int) = (d.toNat : Int) := IntWalk.u8_in _ ⟨by omega, by omega⟩
            replace HX := Lib.hid HX
            clear hh hN hcod hd hNlt
            cases hf : free5 d with
            | true =>
              rw [hf, if_pos rfl] at hen
              rw [hen] at hat
              have HU := Lib.hid hat
              rw [hf] at hdo
              have hlen : P.length + 1 ≤ 140737488355328 := by omega
              clear hat hen hf hel
              go_wp2_with (first
                | (go_at_call 171; refine (HX.out _).mono ?_; rintro e w4 ⟨rfl, hb4⟩; have HB4 := Lib.hid (HB.out.below hb4); have HL4 := Lib.hid (HL.out.trans (hb4.mono hgs)); have g4 : g0 ≤ w4.heap.size := Nat.le_trans hgs hb4.size; clear hb4)
                | (go_at_call 172; refine (OF.out d _).mono ?_; rw [hdo]; rintro e w5 ⟨rfl, hb5⟩; have HB5 := Lib.hid ((HB4.out.alloc _).below hb5); have HL5 := Lib.hid ((HL4.out.alloc g4 _).trans (hb5.mono (by simp; omega))); have g5 : g0 ≤ w5.heap.size := by have := hb5.size; simp at this; omega
                   clear hb5)
                | (go_at_call 155; refine (WriteByte_any g0 g0 P d _ HB5.out hlen g5).mono ?_; rintro e w6 ⟨rfl, hb6, hl6⟩; have HB6 := Lib.hid hb6; have HL6 := Lib.hid (HL5.out.trans hl6); clear hb6 hl6))
              go_roundw
              case rel => exact ⟨k + 3, P ++ [d], by omega, by go_num, HU.out, by simp; omega, HB6.out, HL6.out⟩
              case measure => simp [intOf]; omega
            | false =>
              rw [hf, if_neg (by simp)] at hen
              rw [hen, show P ++ [37, greatC a, greatC b] = P ++ [37] ++ [greatC a] ++ [greatC b] by simp] at hat
              have HU := Lib.hid hat
              rw [hf] at hdo
              have hl1 : P.length + 1 ≤ 140737488355328 := by omega
              have hl2 : (P ++ [37]).length + 1 ≤ 140737488355328 := by simp; omega
              have hl3 : (P ++ [37] ++ [greatC a]).length + 1 ≤ 140737488355328 := by simp; omega
              have GA := Lib.hid (fun W => great_any a W)
              have GB := Lib.hid (fun W => great_any b W)
              have HC37 : Hid (((37 : UInt8).toNat : Int) = 37) := Lib.hid rfl
              clear hat hen hf hel
              go_upto_region 14 with (first
                | (go_at_call 171; refine (HX.out _).mono ?_; rintro e w4 ⟨rfl, hb4⟩; have HB4 := Lib.hid (HB.out.below hb4); have HL4 := Lib.hid (HL.out.trans (hb4.mono hgs)); have g4 : g0 ≤ w4.heap.size := Nat.le_trans hgs hb4.size; clear hb4)
                | (go_at_call 172; refine (OF.out d _).mono ?_; rw [hdo]; rintro e w5 ⟨rfl, hb5⟩; have HB5 := Lib.hid ((HB4.out.alloc _).below hb5); have HL5 := Lib.hid ((HL4.out.alloc g4 _).trans (hb5.mono (by simp; omega))); have g5 : g0 ≤ w5.heap.size := by have := hb5.size; simp at this; omega
                   clear hb5)
                | (go_at_call 155; refine (WriteByte_any g0 g0 P 37 _ HB5.out hl1 g5).mono ?_; rintro e w6 ⟨rfl, hb6, hl6⟩; have HB6 := Lib.hid hb6; have HL6 := Lib.hid (HL5.out.trans hl6); have g6 := Nat.le_trans g5 hl6.size; clear hb6 hl6))
              go_upto_region 15 with (first
                | (go_at_call 173; refine (GA.out _).mono ?_; rintro e w7 ⟨rfl, rfl⟩)
                | (go_at_call 155; refine (WriteByte_any g0 g0 _ _ _ HB6.out hl2 g6).mono ?_; rintro e w7 ⟨rfl, hb7, hl7⟩; have HB7 := Lib.hid hb7; have HL7 := Lib.hid (HL6.out.trans hl7); have g7 := Nat.le_trans g6 hl7.size; clear hb7 hl7))
              go_wp2_with (first
                | (go_at_call 173; refine (GB.out _).mono ?_; rintro e w8 ⟨rfl, rfl⟩)
                | (go_at_call 155; refine (WriteByte_any g0 g0 _ _ _ HB7.out hl3 g7).mono ?_; rintro e w8 ⟨rfl, hb8, hl8⟩; have HB8 := Lib.hid hb8; have HL8 := Lib.hid (HL7.out.trans hl8); clear hb8 hl8))
              go_roundw
              case rel => exact ⟨k + 3, _, by omega, by go_num, HU.out, by simp; omega, HB8.out, HL8.out⟩
              case measure => simp [intOf]; omega
          · rw [if_neg hh] at HX
            have hu : U = none := by rw [hat]; exact codedR_nohex q P _ a b hh
            have HU := Lib.hid hu
            replace HX := Lib.hid HX
            clear hat hu hh
            go_wp2_with (go_at_call 171; refine (HX.out _).mono ?_; rintro e w4 ⟨rfl, hb4⟩; have HL4 := Lib.hid (HL.out.trans (hb4.mono hgs)); clear hb4)
            go_ret2
            rw [HU.out]
            exact ⟨rfl, HL4.out⟩
      · have e37 : ((c.toNat : Int) == 37) = false := by rw [byteLit c 37 37 rfl, beq_eq_false_iff_ne]; intro h; exact h37 (UInt8.toNat_inj.1 h)
        have e37' : ((c.toNat : Int) != 37) = true := by rw [bne, e37]; rfl
        rw [data_drop s k hlt, hc] at hat
        have OK := OC.out c w0
        rw [of_more] at OK
        cases hok : okC q c with
        | true =>
          rw [codedR_ok q P _ c h37 hok] at hat
          have HU := Lib.hid hat
          rw [hok] at OK
          replace OK := Lib.hid OK
          have hlen : P.length + 1 ≤ 140737488355328 := by omega
          clear hat hok h37
          go_wp2_with (first
            | (go_at_call 172; refine OK.out.mono ?_; rintro e w5 ⟨rfl, hb5⟩; have HB5 := Lib.hid ((HB.out.alloc _).below hb5); have HL5 := Lib.hid ((HL.out.alloc hgs _).trans (hb5.mono (by simp; omega))); have g5 : g0 ≤ w5.heap.size := by have := hb5.size; simp at this; omega
               clear hb5)
            | (go_at_call 155; refine (WriteByte_any g0 g0 P c _ HB5.out hlen g5).mono ?_; rintro e w6 ⟨rfl, hb6, hl6⟩; have HB6 := Lib.hid hb6; have HL6 := Lib.hid (HL5.out.trans hl6); clear hb6 hl6))
          go_roundw
          case rel => exact ⟨k + 1, P ++ [c], by omega, by go_num, HU.out, by simp; omega, HB6.out, HL6.out⟩
          case measure => simp [intOf]; omega
        | false =>
          have hu : U = none := by rw [hat]; exact codedR_no q P _ c h37 hok
          have HU := Lib.hid hu
          rw [hok] at OK
          replace OK := Lib.hid OK
          clear hat hok h37 hu
          go_wp2_with (go_at_call 172; refine OK.out.mono ?_; rintro e w5 ⟨rfl, hb5⟩; have HL5 := Lib.hid ((HL.out.alloc hgs _).trans (hb5.mono (by simp; omega))); clear hb5)
          go_ret2
          rw [HU.out]
          exact ⟨rfl, HL5.out⟩
    · obtain rfl : k = s.size := by omega
      rw [List.drop_eq_nil_of_le (by rw [data_len]; exact Nat.le_refl _), codedR_nil] at hat
      have HU := Lib.hid hat
      clear hat hlt
      go_wp2_with (go_at_call 79; refine (String_any g0 g0 _ _ HB.out hgs).mono ?_; rintro e w3 ⟨rfl, hb3⟩)
      go_ret2
      rw [HU.out]
      exact ⟨rfl, HL.out.trans hb3⟩
end Go.Proofs.YtaddefjkjlkjnaaDoor
