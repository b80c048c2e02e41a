/- Walk of layer 5: octets made normal, by the document. Condition: at most 10^8 octets. -/
import Derived.Test.YtaddefjkjlkjnaaDoorTar7
import Derived.Test.YtaddefjkjlkjnaaDoorTar4
import Derived.Test.YtaddefjkjlkjnaaDoorKt
namespace Go.Proofs.YtaddefjkjlkjnaaDoor
open Go.RowKit IH
set_option maxRecDepth 100000
theorem okC_plain (q : Bool) (c : UInt8) : okC q c = (free5 c || (hasC c (subs5 ++ moreT) || (q && c.toNat == 63))) := by
  have h : ∀ q, okC q c = (free5 c || (hasC c (subs5 ++ moreT) || (q && c.toNat == 63))) := by
    intro q
    have := all_bytes (fun c => okC q c == (free5 c || (hasC c (subs5 ++ moreT) || (q && c.toNat == 63)))) (by cases q <;> decide +kernel) c
    exact eq_of_beq this
  exact h q
def bigB : ByteArray := ⟨#[48, 49, 50, 51, 52, 53, 54, 55, 56, 57, 65, 66, 67, 68, 69, 70]⟩
theorem big_at (c : UInt8) (h : isHex c = true) (hl : dig c < bigB.size) : bigB[dig c] = greatC c := by
  have h1 := big_dig c h
  have h2 := get_data bigB (dig c) hl
  rw [show bigB.data.toList = bigDigs from rfl, h1] at h2
  exact (Option.some.inj h2).symm
set_option maxHeartbeats 16000000 in
theorem refCoded5_any (s : ByteArray) (hs : s.size ≤ 100000000) (q : Bool) (w : World) :
    Calls Tryd.prog 47 #[.string s, .bool q] w fun e w' => e = .returned (.tuple #[.string ⟨((codedL q s.data.toList).getD []).toArray⟩, .bool (codedL q s.data.toList).isSome]) ∧ Below w.heap.size w w' := by
  have FR := Lib.hid (fun c w => tfree_any c w)
  have AM := fun c w => among_any c ⟨#[33, 36, 38, 39, 40, 41, 42, 43, 44, 59, 61, 58, 64, 47]⟩ (by show 14 ≤ _; omega) w
  rw [show (⟨#[33, 36, 38, 39, 40, 41, 42, 43, 44, 59, 61, 58, 64, 47]⟩ : ByteArray).data.toList = subs5 ++ moreT from rfl] at AM
  replace AM := Lib.hid AM
  have HX := Lib.hid (fun c w => hexa_any c w)
  obtain ⟨U, hU⟩ : ∃ U, codedL q s.data.toList = U := ⟨_, rfl⟩
  have HU0 : Hid (U = codedR q [] s.data.toList) := Lib.hid (by rw [← hU]; simp [codedR])
  rw [hU]
  clear hU
  obtain ⟨g0, hg0⟩ : ∃ g0, w.heap.size = g0 := ⟨_, rfl⟩
  rw [hg0]
  go_enter Tryd.func47, Tryd.ntmps47
  go_wp2
  go_loopw [6, 7] (fun bv i wr => ∃ (k : Nat) (P : List UInt8), k ≤ s.size ∧ i = .int .i64 k ∧ U = codedR q P (s.data.toList.drop k) ∧ P.length ≤ 3 * k ∧ wr.ownsRow g0 5 1 bv P.length (bytesV P) ∧ Below g0 w wr) (fun _ i _ => s.size - (intOf i).toNat)
  case atStart => exact ⟨0, [], by omega, rfl, HU0.out, by simp, World.ownsRow_nil _ _ _ _, Below.refl _ _⟩
  case round =>
    clear HU0
    obtain ⟨w0, rfl⟩ : ∃ w0 : World, w0 = wr := ⟨_, rfl⟩
    obtain ⟨k, P, hk, rfl, hat, hP, hrow, hbel⟩ := hrel
    have HO := Lib.hid hrow
    have HL := Lib.hid hbel
    have hgs : g0 ≤ w0.heap.size := by rw [← hg0]; exact hbel.size
    clear hrow hbel
    by_cases hlt : k < s.size
    · obtain ⟨c, hc⟩ : ∃ c, s[k] = c := ⟨_, rfl⟩
      have kI : (k : Int) < (s.size : Int) := by omega
      by_cases h37 : c = 37
      · subst h37
        have e37 : (((37 : UInt8).toNat : Int) == 37) = true := by decide
        have w2 : IntKind.i64.wrap ((k : Int) + 2) = (k : Int) + 2 := IntWalk.i64_in _ ⟨by omega, by omega⟩
        by_cases h3 : s.size < k + 3
        · have hu : U = none := by
            rw [hat, data_drop s k hlt, hc]
            exact codedR_short q P _ (by rw [List.length_drop, data_len]; omega)
          have HU := Lib.hid hu
          have h3I : (s.size : Int) ≤ (k : Int) + 2 := by omega
          clear hat hu
          go_upto_region 7 with fail
          refine wp_region_seq ?_
          iterate 6
            refine seq_take (v := ?_) (wanted_un rfl) ?_ ?_
            rotate_left
            · go_simp
              try with_reducible rfl
            try simp only [Act.put, List.setIfInBounds_toArray, List.set_cons_zero, List.set_cons_succ]
          iterate 6
            refine seq_skip (wanted_no rfl rfl rfl rfl) ?_
            try simp only [Act.put, List.setIfInBounds_toArray, List.set_cons_zero, List.set_cons_succ]
          iterate 2
            refine seq_take (v := ?_) (wanted_un rfl) ?_ ?_
            rotate_left
            · go_simp
              try with_reducible rfl
            try simp only [Act.put, List.setIfInBounds_toArray, List.set_cons_zero, List.set_cons_succ]
          iterate 6
            refine seq_skip (wanted_no rfl rfl rfl rfl) ?_
            try simp only [Act.put, List.setIfInBounds_toArray, List.set_cons_zero, List.set_cons_succ]
          iterate 1
            refine seq_take (v := ?_) (wanted_un rfl) ?_ ?_
            rotate_left
            · go_simp
              try with_reducible rfl
            try simp only [Act.put, List.setIfInBounds_toArray, List.set_cons_zero, List.set_cons_succ]
          refine seq_done ?_
          go_wp2
          go_ret2
          rw [HU.out]
          exact ⟨rfl, HL.out⟩
        · have h3I : (k : Int) + 2 < (s.size : Int) := by omega
          have hz : ¬ ((s.size : Int) ≤ (k : Int) + 2) := by omega
          have z1 : (0 : Int) ≤ (k : Int) + 1 := by omega
          have t2 : ((k : Int) + 2).toNat = k + 2 := by omega
          have z2 : (0 : Int) ≤ (k : Int) + 2 := by omega
          have hk2 : k + 2 < s.size := by omega
          have hk1 : k + 1 < s.size := by omega
          have h1I : (k : Int) + 1 < (s.size : Int) := by omega
          obtain ⟨a, ha⟩ : ∃ a, s[k + 1] = a := ⟨_, rfl⟩
          obtain ⟨b, hb⟩ : ∃ b, s[k + 2] = b := ⟨_, rfl⟩
          have hd := data_drop2 s k hk2
          rw [hc, ha, hb] at hd
          rw [hd] at hat
          have w1 : IntKind.i64.wrap ((k : Int) + 1) = (k : Int) + 1 := IntWalk.i64_in _ ⟨by omega, by omega⟩
          clear hd
          have HA := fun W => HX.out a W
          have HB := fun W => HX.out b W
          have a99 := hexa99 a
          have b99 := hexa99 b
          obtain ⟨va, hva⟩ : ∃ x, hexaR a = x := ⟨_, rfl⟩
          obtain ⟨vb, hvb⟩ : ∃ x, hexaR b = x := ⟨_, rfl⟩
          rw [hva] at HA a99
          rw [hvb] at HB b99
          replace HA := Lib.hid HA
          replace HB := Lib.hid HB
          cases hha : isHex a with
          | false =>
            have hu : U = none := by rw [hat]; exact codedR_nohex q P _ a b (by simp [hha])
            have HU := Lib.hid hu
            rw [hha, Bool.not_false] at a99
            clear hat hu hha b99 hva hvb
            go_upto_region 7 with fail
            refine wp_region_seq ?_
            iterate 6
              refine seq_take (v := ?_) (wanted_un rfl) ?_ ?_
              rotate_left
              · go_simp
                try with_reducible rfl
              try simp only [Act.put, List.setIfInBounds_toArray, List.set_cons_zero, List.set_cons_succ]
            iterate 4
              refine seq_take (v := ?_) (wanted_yes rfl rfl rfl rfl) ?_ ?_
              rotate_left
              · go_simp
                try with_reducible rfl
              try simp only [Act.put, List.setIfInBounds_toArray, List.set_cons_zero, List.set_cons_succ]
            refine seq_move (wanted_yes rfl rfl rfl rfl) (fun K hK => ?_)
            go_simp
            (with_reducible refine (HA.out _).mono ?_)
            rintro e w4 ⟨rfl, hb4⟩
            have HO4 := Lib.hid (own_below HO.out hb4)
            have HL4 := Lib.hid (HL.out.trans (hb4.mono hgs))
            have g4 := Nat.le_trans hgs hb4.size
            clear hb4
            refine hK.out _ _ ?_
            clear hK K
            try simp only [Act.put, List.setIfInBounds_toArray, List.set_cons_zero, List.set_cons_succ]
            iterate 1
              refine seq_take (v := ?_) (wanted_yes rfl rfl rfl rfl) ?_ ?_
              rotate_left
              · go_simp
                try with_reducible rfl
              try simp only [Act.put, List.setIfInBounds_toArray, List.set_cons_zero, List.set_cons_succ]
            iterate 2
              refine seq_take (v := ?_) (wanted_un rfl) ?_ ?_
              rotate_left
              · go_simp
                try with_reducible rfl
              try simp only [Act.put, List.setIfInBounds_toArray, List.set_cons_zero, List.set_cons_succ]
            iterate 6
              refine seq_skip (wanted_no rfl rfl rfl rfl) ?_
              try simp only [Act.put, List.setIfInBounds_toArray, List.set_cons_zero, List.set_cons_succ]
            iterate 1
              refine seq_take (v := ?_) (wanted_un rfl) ?_ ?_
              rotate_left
              · go_simp
                try with_reducible rfl
              try simp only [Act.put, List.setIfInBounds_toArray, List.set_cons_zero, List.set_cons_succ]
            refine seq_done ?_
            go_wp2
            go_ret2
            rw [HU.out]
            exact ⟨rfl, HL4.out⟩
          | true =>
            rw [hha, Bool.not_true] at a99
            cases hhb : isHex b with
            | false =>
              have hu : U = none := by rw [hat]; exact codedR_nohex q P _ a b (by simp [hhb])
              have HU := Lib.hid hu
              rw [hhb, Bool.not_false] at b99
              clear hat hu hha hhb hva hvb
              go_upto_region 7 with fail
              refine wp_region_seq ?_
              iterate 6
                refine seq_take (v := ?_) (wanted_un rfl) ?_ ?_
                rotate_left
                · go_simp
                  try with_reducible rfl
                try simp only [Act.put, List.setIfInBounds_toArray, List.set_cons_zero, List.set_cons_succ]
              iterate 4
                refine seq_take (v := ?_) (wanted_yes rfl rfl rfl rfl) ?_ ?_
                rotate_left
                · go_simp
                  try with_reducible rfl
                try simp only [Act.put, List.setIfInBounds_toArray, List.set_cons_zero, List.set_cons_succ]
              refine seq_move (wanted_yes rfl rfl rfl rfl) (fun K hK => ?_)
              go_simp
              (with_reducible refine (HA.out _).mono ?_)
              rintro e w4 ⟨rfl, hb4⟩
              have HO4 := Lib.hid (own_below HO.out hb4)
              have HL4 := Lib.hid (HL.out.trans (hb4.mono hgs))
              have g4 := Nat.le_trans hgs hb4.size
              clear hb4
              refine hK.out _ _ ?_
              clear hK K
              try simp only [Act.put, List.setIfInBounds_toArray, List.set_cons_zero, List.set_cons_succ]
              iterate 1
                refine seq_take (v := ?_) (wanted_yes rfl rfl rfl rfl) ?_ ?_
                rotate_left
                · go_simp
                  try with_reducible rfl
                try simp only [Act.put, List.setIfInBounds_toArray, List.set_cons_zero, List.set_cons_succ]
              iterate 2
                refine seq_take (v := ?_) (wanted_un rfl) ?_ ?_
                rotate_left
                · go_simp
                  try with_reducible rfl
                try simp only [Act.put, List.setIfInBounds_toArray, List.set_cons_zero, List.set_cons_succ]
              iterate 4
                refine seq_take (v := ?_) (wanted_yes rfl rfl rfl rfl) ?_ ?_
                rotate_left
                · go_simp
                  try with_reducible rfl
                try simp only [Act.put, List.setIfInBounds_toArray, List.set_cons_zero, List.set_cons_succ]
              refine seq_move (wanted_yes rfl rfl rfl rfl) (fun K hK => ?_)
              go_simp
              (with_reducible refine (HB.out _).mono ?_)
              rintro e w5 ⟨rfl, hb5⟩
              have HO5 := Lib.hid (own_below HO4.out hb5)
              have HL5 := Lib.hid (HL4.out.trans (hb5.mono g4))
              have g5 := Nat.le_trans g4 hb5.size
              clear hb5
              refine hK.out _ _ ?_
              clear hK K
              try simp only [Act.put, List.setIfInBounds_toArray, List.set_cons_zero, List.set_cons_succ]
              iterate 1
                refine seq_take (v := ?_) (wanted_yes rfl rfl rfl rfl) ?_ ?_
                rotate_left
                · go_simp
                  try with_reducible rfl
                try simp only [Act.put, List.setIfInBounds_toArray, List.set_cons_zero, List.set_cons_succ]
              iterate 1
                refine seq_take (v := ?_) (wanted_un rfl) ?_ ?_
                rotate_left
                · go_simp
                  try with_reducible rfl
                try simp only [Act.put, List.setIfInBounds_toArray, List.set_cons_zero, List.set_cons_succ]
              refine seq_done ?_
              go_wp2
              go_ret2
              rw [HU.out]
              exact ⟨rfl, HL5.out⟩
            | true =>
              rw [hhb, Bool.not_true] at b99
              have hN := hexN_nat a b hha hhb
              have hcod := codedR_hex q P (s.data.toList.drop (k + 3)) a b hha hhb
              rw [hcod] at hat
              obtain ⟨d, hd⟩ : ∃ d, hexN a b = d := ⟨_, rfl⟩
              have hen : enc5 a b = if free5 d = true then [d] else [37, greatC a, greatC b] := by unfold enc5; rw [hd]
              have hel := enc_length a b
              have la := dig_lt a hha
              have lb := dig_lt b hhb
              have hga : ∀ n, n = dig a → ∀ h : n < bigB.size, bigB[n] = greatC a := fun n hn h => by subst hn; exact big_at a hha h
              have hgb : ∀ n, n = dig b → ∀ h : n < bigB.size, bigB[n] = greatC b := fun n hn h => by subst hn; exact big_at b hhb h
              have hva' : va = (dig a : Int) := by rw [← hva]; unfold hexaR; rw [if_pos hha]
              have hvb' : vb = (dig b : Int) := by rw [← hvb]; unfold hexaR; rw [if_pos hhb]
              subst hva' hvb'
              rw [hd] at hN
              have FD := Lib.hid (fun W => FR.out d W)
              obtain ⟨x, hx⟩ : ∃ x, dig a = x := ⟨_, rfl⟩
              obtain ⟨y, hy⟩ : ∃ y, dig b = y := ⟨_, rfl⟩
              have hga2 := hga x hx.symm
              have hgb2 := hgb y hy.symm
              simp only [hx] at HA a99 hN la
              simp only [hy] at HB b99 hN lb
              clear hga hgb
              have hm : IntKind.i64.wrap (16 * (x : Int)) = 16 * (x : Int) := IntWalk.i64_in _ ⟨by omega, by omega⟩
              have hs1 : IntKind.i64.wrap (16 * (x : Int) + (y : Int)) = ((d.toNat : Nat) : Int) := by rw [show 16 * (x : Int) + (y : Int) = ((d.toNat : Nat) : Int) by omega]; exact IntWalk.i64_in _ ⟨by omega, by omega⟩
              have HN := Lib.hid hN
              clear hcod hd hha hhb hx hy hva hvb hN
              go_upto_region 7 with fail
              refine wp_region_seq ?_
              iterate 6
                refine seq_take (v := ?_) (wanted_un rfl) ?_ ?_
                rotate_left
                · go_simp
                  try with_reducible rfl
                try simp only [Act.put, List.setIfInBounds_toArray, List.set_cons_zero, List.set_cons_succ]
              iterate 4
                refine seq_take (v := ?_) (wanted_yes rfl rfl rfl rfl) ?_ ?_
                rotate_left
                · go_simp
                  try with_reducible rfl
                try simp only [Act.put, List.setIfInBounds_toArray, List.set_cons_zero, List.set_cons_succ]
              refine seq_move (wanted_yes rfl rfl rfl rfl) (fun K hK => ?_)
              go_simp
              (with_reducible refine (HA.out _).mono ?_)
              rintro e w4 ⟨rfl, hb4⟩
              have HO4 := Lib.hid (own_below HO.out hb4)
              have HL4 := Lib.hid (HL.out.trans (hb4.mono hgs))
              have g4 := Nat.le_trans hgs hb4.size
              clear hb4
              refine hK.out _ _ ?_
              clear hK K
              try simp only [Act.put, List.setIfInBounds_toArray, List.set_cons_zero, List.set_cons_succ]
              iterate 1
                refine seq_take (v := ?_) (wanted_yes rfl rfl rfl rfl) ?_ ?_
                rotate_left
                · go_simp
                  try with_reducible rfl
                try simp only [Act.put, List.setIfInBounds_toArray, List.set_cons_zero, List.set_cons_succ]
              iterate 2
                refine seq_take (v := ?_) (wanted_un rfl) ?_ ?_
                rotate_left
                · go_simp
                  try with_reducible rfl
                try simp only [Act.put, List.setIfInBounds_toArray, List.set_cons_zero, List.set_cons_succ]
              iterate 4
                refine seq_take (v := ?_) (wanted_yes rfl rfl rfl rfl) ?_ ?_
                rotate_left
                · go_simp
                  try with_reducible rfl
                try simp only [Act.put, List.setIfInBounds_toArray, List.set_cons_zero, List.set_cons_succ]
              refine seq_move (wanted_yes rfl rfl rfl rfl) (fun K hK => ?_)
              go_simp
              (with_reducible refine (HB.out _).mono ?_)
              rintro e w5 ⟨rfl, hb5⟩
              have HO5 := Lib.hid (own_below HO4.out hb5)
              have HL5 := Lib.hid (HL4.out.trans (hb5.mono g4))
              have g5 := Nat.le_trans g4 hb5.size
              clear hb5
              refine hK.out _ _ ?_
              clear hK K
              try simp only [Act.put, List.setIfInBounds_toArray, List.set_cons_zero, List.set_cons_succ]
              iterate 1
                refine seq_take (v := ?_) (wanted_yes rfl rfl rfl rfl) ?_ ?_
                rotate_left
                · go_simp
                  try with_reducible rfl
                try simp only [Act.put, List.setIfInBounds_toArray, List.set_cons_zero, List.set_cons_succ]
              iterate 1
                refine seq_take (v := ?_) (wanted_un rfl) ?_ ?_
                rotate_left
                · go_simp
                  try with_reducible rfl
                try simp only [Act.put, List.setIfInBounds_toArray, List.set_cons_zero, List.set_cons_succ]
              refine seq_done ?_
              go_upto_region 9 with fail
              refine wp_region_plan (fun W => Below w5.heap.size w5 W) [(0, true), (1, true), (2, true), (3, true), (6, true), (7, true), (8, true), (9, true), (4, false), (5, true), (10, false), (11, true), (12, true)] (by kernel_rfl) (by kernel_rfl) rfl (by kernel_rfl) (below_drewN (Below.refl _ _) 1) ?_
              intro w1 hH
              iterate 8
                refine plan_take (v := ?_) rfl (by rfl) ?_ ?_
                rotate_left
                · intro w2 hSw
                  clear hSw
                  go_simp
                  try with_reducible rfl
                try simp only [Act.put, List.setIfInBounds_toArray, List.set_cons_zero, List.set_cons_succ]
              refine plan_move rfl (by rfl) (fun K hK => ?_)
              go_simp
              (with_reducible refine (HA.out _).mono ?_)
              rintro e w6 ⟨rfl, hb6⟩
              refine hK.out _ _ (below_step hH.out hb6) ?_
              clear hH hK hb6 K
              intro hH
              try simp only [Act.put, List.setIfInBounds_toArray, List.set_cons_zero, List.set_cons_succ]
              iterate 1
                refine plan_take (v := ?_) rfl (by rfl) ?_ ?_
                rotate_left
                · intro w2 hSw
                  clear hSw
                  go_simp
                  try with_reducible rfl
                try simp only [Act.put, List.setIfInBounds_toArray, List.set_cons_zero, List.set_cons_succ]
              refine plan_move rfl (by rfl) (fun K hK => ?_)
              go_simp
              (with_reducible refine (HB.out _).mono ?_)
              rintro e w6 ⟨rfl, hb6⟩
              refine hK.out _ _ (below_step hH.out hb6) ?_
              clear hH hK hb6 K
              intro hH
              try simp only [Act.put, List.setIfInBounds_toArray, List.set_cons_zero, List.set_cons_succ]
              iterate 2
                refine plan_take (v := ?_) rfl (by rfl) ?_ ?_
                rotate_left
                · intro w2 hSw
                  clear hSw
                  go_simp
                  try with_reducible rfl
                try simp only [Act.put, List.setIfInBounds_toArray, List.set_cons_zero, List.set_cons_succ]
              refine plan_done ?_
              obtain ⟨w7, rfl⟩ : ∃ W : World, W = w6 := ⟨_, rfl⟩
              have HO7 := Lib.hid (own_below HO5.out hH.out)
              have HL7 := Lib.hid (HL5.out.trans (hH.out.mono g5))
              have g7 := Nat.le_trans g5 hH.out.size
              clear hH HO5 HL5
              have hd255 : (d.toNat : Int) ≤ 255 := by have := d.toNat_lt; omega
              have wd : IntKind.u8.wrap ((d.toNat : Nat) : Int) = (d.toNat : Int) := IntWalk.u8_in _ ⟨by omega, by omega⟩
              cases hf : free5 d with
              | true =>
                rw [hf, if_pos rfl] at hen
                rw [hen] at hat
                have HU := Lib.hid hat
                have FT := FD
                rw [hf] at FT
                have HCB : Hid (bytesV (P ++ [d]) = bytesV P ++ [.int .u8 d.toNat]) := Lib.hid (by rw [bytesV_append]; rfl)
                clear hat hen hf hel a99 b99 hs1 hm
                go_wp2_with (first
                  | (go_at_call 103; refine (FT.out _).mono ?_; rintro e w8 ⟨rfl, rfl⟩)
                  | (at_builtin; refine wpList_app u8_ty rfl _ _ rfl g0 _ _ _ rfl HO7.out 1 1 _ rfl (by rfl) (one1 _ rfl) (by omega) (by simp only [maxLen]; omega) g7 ?_; intro v' w9 hown hgr))
                go_roundw
                case rel => exact ⟨k + 3, P ++ [d], by omega, by go_num, HU.out, by simp; omega, by rw [List.length_append, HCB.out]; exact hown, HL7.out.grown hgr g7 fun z hz => (HO7.out.lt z hz).1⟩
                case measure => simp [intOf]; omega
              | false =>
                rw [hf, if_neg (by simp)] at hen
                rw [hen] at hat
                have HU := Lib.hid hat
                have FT := FD
                rw [hf] at FT
                have HCB : Hid (bytesV (P ++ [37, greatC a, greatC b]) = bytesV P ++ [.int .u8 37, .int .u8 (greatC a).toNat, .int .u8 (greatC b).toNat]) := Lib.hid (by rw [bytesV_append]; rfl)
                have hq : Int.tdiv ((d.toNat : Nat) : Int) 16 = (x : Int) := by rw [Int.tdiv_eq_ediv_of_nonneg (by omega)]; have := HN.out; omega
                have hr : Int.tmod ((d.toNat : Nat) : Int) 16 = (y : Int) := by rw [Int.tmod_eq_emod_of_nonneg (by omega)]; have := HN.out; omega
                have hx16 : x < 16 := by omega
                have hxw : IntKind.i64.wrap (x : Int) = (x : Int) := IntWalk.i64_in _ ⟨by omega, by omega⟩
                have hx16I : (x : Int) < 16 := by omega
                have hy16I : (y : Int) < 16 := by omega
                have hy16 : y < 16 := by omega
                have hxa : (⟨#[48, 49, 50, 51, 52, 53, 54, 55, 56, 57, 65, 66, 67, 68, 69, 70]⟩ : ByteArray)[x]'(by show x < 16; exact hx16) = greatC a := hga2 hx16
                have hyb : (⟨#[48, 49, 50, 51, 52, 53, 54, 55, 56, 57, 65, 66, 67, 68, 69, 70]⟩ : ByteArray)[y]'(by show y < 16; exact hy16) = greatC b := hgb2 hy16
                clear hat hen hf hel a99 b99 hs1 hm hga2 hgb2
                go_upto_region 13 with (go_at_call 103; refine (FT.out _).mono ?_; rintro e w8 ⟨rfl, rfl⟩)
                refine wp_region_tree0 (fun W => Below g0 w W) (.take 0 (.take 1 (.take 2 (.take 3 (.take 4 (.take 5 (.take 6 (.take 7 (.take 8 (.node (.fork 9 (.node (.fork 10 (.take 11 (.done)) (.stop))) (.stop)))))))))))) (by kernel_rfl) (by kernel_rfl) (of_decide_eq_true (by kernel_rfl)) rfl (by kernel_rfl) (below_drewN HL7.out 1) ?_
                intro hH
                iterate 9
                  refine tree_take (v := ?_) rfl (by rfl) ?_ ?_
                  rotate_left
                  · intro w2 hSw
                    clear hSw
                    go_simp
                    try with_reducible rfl
                  try simp only [Act.put, List.setIfInBounds_toArray, List.set_cons_zero, List.set_cons_succ]
                refine tree_node ?_
                refine tree_move rfl (by rfl) (fun K hK => ?_) ?_
                · go_simp
                  refine hK.out _ _ (hH.out.alloc g7 _) ?_
                  have HO8 := Lib.hid (HO7.out.drew.alloc (.cells ([.int .u8 37, .int .u8 (greatC a).toNat, .int .u8 (greatC b).toNat] : List Value).toArray 5))
                  have HR8 := Lib.hid ((RowAt.new w7.drew 5 [.int .u8 37, .int .u8 (greatC a).toNat, .int .u8 (greatC b).toNat]).slice (size := 1) (n := 3) (c := 3) rfl (Nat.le_refl _) (by simp [maxLen]))
                  clear hH hK K
                  intro hH
                  try simp only [Act.put, List.setIfInBounds_toArray, List.set_cons_zero, List.set_cons_succ]
                  refine tree_node ?_
                  refine tree_move rfl (by rfl) (fun K hK => ?_) ?_
                  · refine wp_appS u8_ty _ _ rfl g0 _ P.length _ rfl HO8.out _ _ 3 3 [.int .u8 37, .int .u8 (greatC a).toNat, .int .u8 (greatC b).toNat] rfl HR8.out (by intro u hu; simp only [List.mem_cons, List.not_mem_nil, or_false] at hu; rcases hu with rfl | rfl | rfl <;> rfl) (by omega) (by simp only [maxLen]; omega) (by simp; omega) ?_
                    intro v9 w9 hown9 hgr9
                    refine hK.out _ _ (hH.out.grown hgr9 (by simp; omega) (fun z hz => (HO8.out.lt z hz).1)) ?_
                    have HO9 := Lib.hid hown9
                    clear hK K hown9 hgr9
                    intro hH
                    try simp only [Act.put, List.setIfInBounds_toArray, List.set_cons_zero, List.set_cons_succ]
                    iterate 1
                      refine tree_take (v := ?_) rfl (by rfl) ?_ ?_
                      rotate_left
                      · intro w2 hSw
                        clear hSw
                        go_simp
                        try with_reducible rfl
                      try simp only [Act.put, List.setIfInBounds_toArray, List.set_cons_zero, List.set_cons_succ]
                    refine tree_done ?_
                    go_wp2_with fail
                    go_roundw
                    case rel => exact ⟨k + 3, _, by omega, by go_num, HU.out, by simp; omega, by rw [List.length_append, HCB.out]; exact HO9.out, hH.out⟩
                    case measure => simp [intOf]; omega
                  exact tree_stop
                exact tree_stop
      · have e37 : ((c.toNat : Int) == 37) = false := by rw [byteLit c 37 37 rfl, beq_eq_false_iff_ne]; intro h; exact h37 (UInt8.toNat_inj.1 h)
        rw [data_drop s k hlt, hc] at hat
        have hok := okC_plain q c
        have F1 := fun w => FR.out c w
        have A1 := fun w => AM.out c w
        have e63 := byteLit c 63 63 rfl
        obtain ⟨f, hf⟩ : ∃ f, free5 c = f := ⟨_, rfl⟩
        obtain ⟨m, hm⟩ : ∃ f, hasC c (subs5 ++ moreT) = f := ⟨_, rfl⟩
        obtain ⟨t, ht⟩ : ∃ f, (c.toNat == 63) = f := ⟨_, rfl⟩
        rw [hf] at F1 hok
        rw [hm] at A1 hok
        rw [ht] at e63 hok
        replace F1 := Lib.hid F1
        replace A1 := Lib.hid A1
        clear hf hm ht
        cases hg : okC q c with
        | true =>
          rw [codedR_ok q P _ c h37 hg] at hat
          have HU := Lib.hid hat
          rw [hg] at hok
          clear hat hg h37
          have HCB : Hid (bytesV (P ++ [c]) = bytesV P ++ [.int .u8 c.toNat]) := Lib.hid (by rw [bytesV_append]; rfl)
          cases f with
          | true =>
            clear hok
            go_wp2_with (first
              | (go_at_call 103; refine (F1.out _).mono ?_; rintro e w4 ⟨rfl, rfl⟩)
              | (at_builtin; refine wpList_app u8_ty rfl _ _ rfl g0 _ _ _ rfl HO.out 1 1 _ rfl (by rfl) (one1 _ rfl) (by omega) (by simp only [maxLen]; omega) hgs ?_; intro v' w6 hown hgr))
            go_roundw
            case rel => exact ⟨k + 1, P ++ [c], by omega, by go_num, HU.out, by simp; omega, by rw [List.length_append, HCB.out]; exact hown, HL.out.grown hgr hgs fun z hz => (HO.out.lt z hz).1⟩
            case measure => simp [intOf]; omega
          | false =>
            cases m with
            | true =>
              clear hok
              go_wp2_with (first
                | (go_at_call 103; refine (F1.out _).mono ?_; rintro e w4 ⟨rfl, rfl⟩)
                | (go_at_call 104; refine (A1.out _).mono ?_; rintro e w4 ⟨rfl, rfl⟩)
                | (at_builtin; refine wpList_app u8_ty rfl _ _ rfl g0 _ _ _ rfl HO.out 1 1 _ rfl (by rfl) (one1 _ rfl) (by omega) (by simp only [maxLen]; omega) hgs ?_; intro v' w6 hown hgr))
              go_roundw
              case rel => exact ⟨k + 1, P ++ [c], by omega, by go_num, HU.out, by simp; omega, by rw [List.length_append, HCB.out]; exact hown, HL.out.grown hgr hgs fun z hz => (HO.out.lt z hz).1⟩
              case measure => simp [intOf]; omega
            | false =>
              simp only [Bool.false_or] at hok
              have hq : q = true ∧ t = true := by cases q <;> cases t <;> simp at hok ⊢
              obtain ⟨rfl, rfl⟩ := hq
              clear hok
              go_wp2_with (first
                | (go_at_call 103; refine (F1.out _).mono ?_; rintro e w4 ⟨rfl, rfl⟩)
                | (go_at_call 104; refine (A1.out _).mono ?_; rintro e w4 ⟨rfl, rfl⟩)
                | (at_builtin; refine wpList_app u8_ty rfl _ _ rfl g0 _ _ _ rfl HO.out 1 1 _ rfl (by rfl) (one1 _ rfl) (by omega) (by simp only [maxLen]; omega) hgs ?_; intro v' w6 hown hgr))
              go_roundw
              case rel => exact ⟨k + 1, P ++ [c], by omega, by go_num, HU.out, by simp; omega, by rw [List.length_append, HCB.out]; exact hown, HL.out.grown hgr hgs fun z hz => (HO.out.lt z hz).1⟩
              case measure => simp [intOf]; omega
        | false =>
          have hu : U = none := by rw [hat]; exact codedR_no q P _ c h37 hg
          have HU := Lib.hid hu
          rw [hg] at hok
          clear hat hg h37 hu
          have hfm : f = false ∧ m = false ∧ (q = false ∨ t = false) := by cases f <;> cases m <;> cases q <;> cases t <;> simp at hok ⊢
          obtain ⟨rfl, rfl, hqt⟩ := hfm
          clear hok
          cases q with
          | false =>
            clear hqt
            go_wp2_with (first
              | (go_at_call 103; refine (F1.out _).mono ?_; rintro e w4 ⟨rfl, rfl⟩)
              | (go_at_call 104; refine (A1.out _).mono ?_; rintro e w4 ⟨rfl, rfl⟩))
            go_ret2
            rw [HU.out]
            exact ⟨rfl, HL.out⟩
          | true =>
            obtain rfl : t = false := by simpa using hqt
            clear hqt
            go_wp2_with (first
              | (go_at_call 103; refine (F1.out _).mono ?_; rintro e w4 ⟨rfl, rfl⟩)
              | (go_at_call 104; refine (A1.out _).mono ?_; rintro e w4 ⟨rfl, rfl⟩))
            go_ret2
            rw [HU.out]
            exact ⟨rfl, HL.out⟩
    · obtain rfl : k = s.size := by omega
      rw [List.drop_eq_nil_of_le (by rw [data_len]; exact Nat.le_refl _), codedR_nil] at hat
      have HU := Lib.hid hat
      obtain ⟨A, cp, rfl, hin⟩ := own_slice HO.out
      have hcv := run_string_of (P := Tryd.prog) hin 22 9 5 Tryd.underlying22 Tryd.underlying5 Tryd.underlying9
      clear hat hlt hin
      go_wp2
      go_ret2
      rw [HU.out]
      exact ⟨rfl, HL.out⟩
end Go.Proofs.YtaddefjkjlkjnaaDoor
