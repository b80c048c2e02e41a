/- Walk of layer 7's document: a size line's. Condition: at most 10^9 octets. -/
import Derived.Test.YtefoaldpllnijaaDoorChu6
import Derived.Test.YtefoaldpllnijaaDoorCk
namespace Go.Proofs.YtefoaldpllnijaaDoor
open Go.RowKit IH
set_option maxRecDepth 100000
theorem isBlank_iff (x : UInt8) : isBlank x = (((x.toNat : Int) == 32) || ((x.toNat : Int) == 9)) := by
  unfold isBlank
  have h1 : (x.toNat == 32) = ((x.toNat : Int) == 32) := by rw [Bool.eq_iff_iff, beq_iff_eq, beq_iff_eq]; omega
  have h2 : (x.toNat == 9) = ((x.toNat : Int) == 9) := by rw [Bool.eq_iff_iff, beq_iff_eq, beq_iff_eq]; omega
  rw [h1, h2]
theorem sizeC_head2 {s : List UInt8} {k : Nat} (h : hexHead s = s.take k) (hk : k ≤ s.length) :
    sizeC s = if (numR 16 4294967295 (s.take k)).2 ≠ 0 ∨ extC (s.drop k) = false then -1 else (numR 16 4294967295 (s.take k)).1 := by
  have e := same_num s
  rw [h] at e
  rw [← e]
  exact sizeC_of_head h hk
theorem plain_step {l : List UInt8} {i : Nat} {x : UInt8} (hx : l[i]? = some x) (hi : 1 ≤ i) (h : allOf isPlain ((l.drop 1).take (i - 1)) = true) (hp : isPlain x = true) : allOf isPlain ((l.drop 1).take (i + 1 - 1)) = true := by
  have e : (l.drop 1)[i - 1]? = some x := by rw [List.getElem?_drop, show 1 + (i - 1) = i by omega]; exact hx
  rw [show i + 1 - 1 = (i - 1) + 1 by omega, List.take_add_one, e]
  unfold allOf at h ⊢
  rw [List.all_append, h]
  simp [hp]
theorem plain_bad {l : List UInt8} {i : Nat} {x : UInt8} (hx : l[i]? = some x) (hi : 1 ≤ i) (hp : isPlain x = false) : allOf isPlain (l.drop 1) = false := by
  have e : (l.drop 1)[i - 1]? = some x := by rw [List.getElem?_drop, show 1 + (i - 1) = i by omega]; exact hx
  rw [← Bool.not_eq_true]
  intro h
  have := List.all_eq_true.1 h x (List.mem_of_getElem? e)
  rw [hp] at this; cases this
set_option maxHeartbeats 16000000 in
theorem rsize_any (s : ByteArray) (hs : s.size ≤ 1000000000) (w : World) :
    Calls Tryd.prog 58 #[.string s] w fun e w' => e = .returned (.int .i64 (sizeC s.data.toList)) ∧ w = w' := by
  have NU : ∀ (x : ByteArray), x.size ≤ 1000000000 → ∀ M : Int, 0 ≤ M → M ≤ 9223372036854775807 → ∀ W, Calls Tryd.prog 77 #[.string x, .int .i64 16, .int .i64 M] W fun e w' => e = .returned (.tuple #[.int .i64 (numR 16 M x.data.toList).1, .int .i64 (numR 16 M x.data.toList).2]) ∧ W = w' := fun x hx M h0 h1 W => refNumber16_any x hx M (by omega) h1 W
  replace NU := Lib.hid NU
  have PL := Lib.hid (fun c w => Plain_any c w)
  obtain ⟨T, hT0⟩ : ∃ T, sizeC s.data.toList = T := ⟨_, rfl⟩
  rw [hT0]
  have HT0 := Lib.hid hT0
  clear hT0
  go_enter Tryd.func58, Tryd.ntmps58
  go_wp2
  go_loop [3] (fun v => ∃ k : Nat, v = .int .i64 k ∧ k ≤ s.size ∧ k ≤ 8 ∧ hexHead s.data.toList = s.data.toList.take k ++ hexW k s.data.toList) (fun v => 8 - (intOf v).toNat)
  case atStart => exact ⟨0, rfl, by omega, by omega, hexW_0 _⟩
  case round =>
    obtain ⟨k, rfl, hk, hk8, hinv⟩ := hrel
    have it : ((k : Int) + 1).toNat = k + 1 := by omega
    have j0 : (k : Int) ≤ (s.size : Int) := by omega
    have hstep : (∃ c, s.data.toList[k]? = some c ∧ k < s.size ∧ k < 8 ∧ isHex7 c = true) ∨ (hexW k s.data.toList = [] ∧ ((∃ c, s.data.toList[k]? = some c ∧ k < s.size ∧ k < 8 ∧ isHex7 c = false) ∨ (k < s.size ∧ ¬ (k : Int) < 8) ∨ ¬ (k : Int) < (s.size : Int))) := by
      by_cases hlt : k < s.size ∧ k < 8
      · obtain ⟨h1, h2⟩ := hlt
        obtain ⟨c, hc⟩ : ∃ c, s.data.toList[k]? = some c := ⟨_, get_data s k h1⟩
        cases hp : isHex7 c with
        | true => exact .inl ⟨c, hc, h1, h2, hp⟩
        | false => exact .inr ⟨hexW_stop hc hp, .inl ⟨c, hc, h1, h2, hp⟩⟩
      · refine .inr ⟨hexW_end (by rw [data_len]; omega), ?_⟩
        by_cases h : k < s.size
        · exact .inr (.inl ⟨h, by omega⟩)
        · exact .inr (.inr (by omega))
    have one : ∀ c, s.data.toList[k]? = some c → k < s.size → ∃ x1, ∀ W, Calls Tryd.prog 77 #[.string (s.extract k (k + 1)), .int .i64 16, .int .i64 15] W fun e w' => e = .returned (.tuple #[.int .i64 x1, .int .i64 (if isHex7 c = true then 0 else 10)]) ∧ W = w' := by
      intro c hc h1
      have hd1 : (s.extract k (k + 1)).data.toList = [c] := by
        rw [Lib.extract_data]
        obtain ⟨g1, g2⟩ := List.getElem?_eq_some_iff.1 hc
        rw [List.drop_eq_getElem_cons g1, g2, show k + 1 - k = 1 by omega]
        rfl
      have HX := fun W => NU.out (s.extract k (k + 1)) (by simp; omega) 15 (by omega) (by omega) W
      rw [hd1, hex1] at HX
      exact ⟨_, HX⟩
    rcases hstep with ⟨c, hc, h1, h2, hp⟩ | ⟨hw, hways⟩
    · obtain ⟨x1, HX⟩ := one c hc h1
      rw [hp, if_pos rfl] at HX
      replace HX := Lib.hid HX
      have j1 : (k : Int) < (s.size : Int) := by omega
      have j2 : (k : Int) < 8 := by omega
      have j3 : (k : Int) + 1 ≤ (s.size : Int) := by omega
      rw [hexW_step hc h2 hp] at hinv
      have HI := Lib.hid hinv
      clear hinv hc hp hk hk8 NU one PL
      go_wp2_with (go_at_call 77; (with_reducible refine (HX.out _).mono ?_); rintro e w2 ⟨rfl, rfl⟩)
      go_round
      case rel => exact ⟨k + 1, by go_num, by omega, by omega, HI.out⟩
      case measure => simp [intOf]; omega
    · rw [hw, List.append_nil] at hinv
      have H1 := fun W => NU.out (s.extract 0 k) (by simp; omega) 4294967295 (by omega) (by omega) W
      rw [take_data s k hk] at H1
      have hsz := sizeC_head2 hinv (by rw [data_len]; exact hk)
      rw [← drop_data] at hsz
      obtain ⟨q1, hq1⟩ : ∃ q1, (numR 16 4294967295 (s.data.toList.take k)).1 = q1 := ⟨_, rfl⟩
      obtain ⟨q2, hq2⟩ : ∃ q2, (numR 16 4294967295 (s.data.toList.take k)).2 = q2 := ⟨_, rfl⟩
      rw [hq1, hq2] at H1 hsz
      have hXs : (s.extract k s.size).size ≤ s.size := by simp
      obtain ⟨X, hX⟩ : ∃ X, s.extract k s.size = X := ⟨_, rfl⟩
      rw [hX] at hsz hXs
      replace H1 := Lib.hid H1
      rw [HT0.out] at hsz
      have HS := Lib.hid hsz
      clear hsz hq1 hq2 hinv hw NU
      have hw3 : (∃ x1, (k : Int) < (s.size : Int) ∧ (k : Int) < 8 ∧ (k : Int) + 1 ≤ (s.size : Int) ∧ Hid (∀ W, Calls Tryd.prog 77 #[.string (s.extract k (k + 1)), .int .i64 16, .int .i64 15] W fun e w' => e = .returned (.tuple #[.int .i64 x1, .int .i64 10]) ∧ W = w')) ∨ (k < s.size ∧ ¬ (k : Int) < 8) ∨ ¬ (k : Int) < (s.size : Int) := by
        rcases hways with ⟨c, hc, h1, h2, hp⟩ | h | h
        · obtain ⟨x1, HX⟩ := one c hc h1
          rw [hp, if_neg (by simp)] at HX
          exact .inl ⟨x1, by omega, by omega, by omega, Lib.hid HX⟩
        · exact .inr (.inl h)
        · exact .inr (.inr h)
      clear hways one hk8
      rcases hw3 with ⟨x1, j1, j2, j3, HX⟩ | ⟨hk1, hk2⟩ | hk1
      all_goals
        (first | have _h := HX | have HX := H1)
        by_cases h2 : q2 = 0
        · subst h2
          by_cases hXe : X.data.toList = []
          · have e0 : (X.toList == []) = true := by rw [beq_iff_eq, ByteArray.toList_eq]; exact hXe
            have hr : T = q1 := by rw [HS.out, hXe, if_neg (by simp [extC])]
            have HR := Lib.hid hr
            clear hXe hr HS
            go_wp2_with (first
              | (go_at_call 77; (with_reducible refine (HX.out _).mono ?_); rintro e w2 ⟨rfl, rfl⟩)
              | (go_at_call 77; (with_reducible refine (H1.out _).mono ?_); rintro e w2 ⟨rfl, rfl⟩))
            go_ret
            exact ⟨by rw [HR.out]; rfl, rfl⟩
          · have e0 : (X.toList == []) = false := by rw [beq_eq_false_iff_ne, ByteArray.toList_eq]; exact hXe
            have hr : T = if extR (X.data.toList.dropWhile isBlank) = false then -1 else q1 := by
              rw [HS.out, extC_R hXe]; simp
            have HQ := Lib.hid hr
            clear hXe hr HS
            go_wp2_with (first
              | (go_at_call 77; (with_reducible refine (HX.out _).mono ?_); rintro e w2 ⟨rfl, rfl⟩)
              | (go_at_call 77; (with_reducible refine (H1.out _).mono ?_); rintro e w2 ⟨rfl, rfl⟩))
            go_loop [8] (fun x => ∃ u : ByteArray, x = .string u ∧ u.size ≤ s.size ∧ u.data.toList.dropWhile isBlank = X.data.toList.dropWhile isBlank) (fun x => strSize x)
            case atStart => exact ⟨X, rfl, hXs, rfl⟩
            case round =>
              obtain ⟨u, rfl, hu, hdw⟩ := hrel
              have HD := Lib.hid hdw
              clear hdw
              by_cases hu0 : 0 < u.size
              · obtain ⟨c, hc⟩ : ∃ c, u[0] = c := ⟨_, rfl⟩
                have hd : u.data.toList = c :: u.data.toList.drop 1 := by have := data_drop u 0 hu0; rw [hc] at this; exact this
                have huI : (0 : Int) < (u.size : Int) := by omega
                have eu : (u.toList == []) = false := by rw [beq_eq_false_iff_ne, ByteArray.toList_eq, hd]; simp
                have hbl := isBlank_iff c
                by_cases hb : isBlank c = true
                · have hdr : (u.extract 1 u.size).data.toList.dropWhile isBlank = X.data.toList.dropWhile isBlank := by
                    rw [drop_data, ← HD.out]
                    conv => rhs; rw [hd, List.dropWhile_cons, if_pos hb]
                  have HR := Lib.hid hdr
                  rw [hb] at hbl
                  have hbl2 := hbl.symm
                  clear hdr hd hb HD hbl
                  have hu1 : (1 : Int) ≤ (u.size : Int) := by omega
                  have hu1n : 1 ≤ u.size := by omega
                  by_cases h32 : ((c.toNat : Int) == 32) = true
                  · clear hbl2
                    go_wp2
                    go_round
                    case rel => exact ⟨_, rfl, by simp; omega, HR.out⟩
                    case measure => simp [strSize]; omega
                  · have h32f : ((c.toNat : Int) == 32) = false := by simpa using h32
                    rw [h32f, Bool.false_or] at hbl2
                    go_wp2
                    go_round
                    case rel => exact ⟨_, rfl, by simp; omega, HR.out⟩
                    case measure => simp [strSize]; omega
                · have hbf : isBlank c = false := by simpa using hb
                  rw [hbf] at hbl
                  have h32f : ((c.toNat : Int) == 32) = false := (Bool.or_eq_false_iff.1 hbl.symm).1
                  have h9f : ((c.toNat : Int) == 9) = false := (Bool.or_eq_false_iff.1 hbl.symm).2
                  have hE : extR (X.data.toList.dropWhile isBlank) = (c == 59 && allOf isPlain (u.data.toList.drop 1)) := by
                    rw [← HD.out]
                    conv => lhs; rw [hd, List.dropWhile_cons, if_neg (by simp [hbf])]
                    rfl
                  rw [hE] at HQ
                  clear hE hd HD hbl hb hbf
                  by_cases h59 : c = 59
                  · subst h59
                    have e59 : (((59 : UInt8).toNat : Int) == 59) = true := rfl
                    rw [show ((59 : UInt8) == 59) = true from rfl, Bool.true_and] at HQ
                    go_wp2
                    go_loop [9] (fun v => ∃ i : Nat, v = .int .i64 i ∧ 1 ≤ i ∧ i ≤ u.size ∧ allOf isPlain ((u.data.toList.drop 1).take (i - 1)) = true) (fun v => u.size - (intOf v).toNat)
                    case atStart => exact ⟨1, rfl, by omega, by omega, rfl⟩
                    case round =>
                      obtain ⟨i, rfl, hi1, hi2, hpl⟩ := hrel
                      by_cases hlt : i < u.size
                      · obtain ⟨x, hx⟩ : ∃ x, u[i] = x := ⟨_, rfl⟩
                        have hxd : u.data.toList[i]? = some x := by rw [get_data u i hlt, hx]
                        cases hp : isPlain x with
                        | true =>
                          have HN := Lib.hid (plain_step hxd hi1 hpl hp)
                          have PX := PL.out x
                          rw [hp] at PX
                          replace PX := Lib.hid PX
                          clear hxd hpl hp
                          go_wp2_with (go_at_call 78; refine (PX.out _).mono ?_; rintro e w2 ⟨rfl, rfl⟩)
                          go_round
                          case rel => exact ⟨i + 1, by go_num, by omega, by omega, HN.out⟩
                          case measure => simp [intOf]; omega
                        | false =>
                          have HN := Lib.hid (plain_bad hxd hi1 hp)
                          have PX := PL.out x
                          rw [hp] at PX
                          replace PX := Lib.hid PX
                          clear hxd hpl hp
                          go_wp2_with (go_at_call 78; refine (PX.out _).mono ?_; rintro e w2 ⟨rfl, rfl⟩)
                          go_ret
                          exact ⟨by rw [HQ.out, HN.out]; rfl, rfl⟩
                      · rw [List.take_of_length_le (by rw [List.length_drop, data_len]; omega)] at hpl
                        have HN := Lib.hid hpl
                        clear hpl
                        go_wp2
                        go_ret
                        exact ⟨by rw [HQ.out, HN.out]; rfl, rfl⟩
                  · have e59 : ((c.toNat : Int) == 59) = false := by rw [beq_eq_false_iff_ne]; intro h; exact h59 (UInt8.toNat_inj.1 (by have : (59 : UInt8).toNat = 59 := rfl; omega))
                    have h59f : (c == 59) = false := by rw [beq_eq_false_iff_ne]; exact h59
                    have n59 : ((c.toNat : Int) != 59) = true := by rw [bne, e59]; rfl
                    rw [h59f, Bool.false_and] at HQ
                    clear h59 h59f
                    go_wp2
                    go_ret
                    exact ⟨by rw [HQ.out]; rfl, rfl⟩
              · have hu00 : u.data.toList = [] := List.eq_nil_of_length_eq_zero (by rw [data_len]; omega)
                have eu : (u.toList == []) = true := by rw [beq_iff_eq, ByteArray.toList_eq]; exact hu00
                have huI : ¬ (0 : Int) < (u.size : Int) := by omega
                have hE : extR (X.data.toList.dropWhile isBlank) = false := by rw [← HD.out, hu00]; rfl
                rw [hE] at HQ
                clear hE HD hu00
                go_wp2
                go_ret
                exact ⟨by rw [HQ.out]; rfl, rfl⟩
        · have n2 : (q2 != 0) = true := by rw [bne_iff_ne]; exact h2
          have hr : T = -1 := by rw [HS.out, if_pos (.inl h2)]
          have HR := Lib.hid hr
          clear hr HS
          go_wp2_with (first
            | (go_at_call 77; (with_reducible refine (HX.out _).mono ?_); rintro e w2 ⟨rfl, rfl⟩)
            | (go_at_call 77; (with_reducible refine (H1.out _).mono ?_); rintro e w2 ⟨rfl, rfl⟩))
          go_ret
          exact ⟨by rw [HR.out]; rfl, rfl⟩
end Go.Proofs.YtefoaldpllnijaaDoor
