/- Walks of layer 5: what a host is, by the code and by the document. No condition but that lengths are within bounds. -/
import Derived.Test.YtaddefjkjlkjnaaDoorTar2
namespace Go.Proofs.YtaddefjkjlkjnaaDoor
open Go.RowKit IH
set_option maxRecDepth 100000
theorem pre91 (l : List UInt8) : (∃ r, l = 91 :: r ∧ Lib.hasPrefix l [91] = true ∧ Lib.trimPrefix l [91] = r) ∨ (l.head? ≠ some 91 ∧ Lib.hasPrefix l [91] = false ∧ Lib.trimPrefix l [91] = l) := by
  unfold Lib.trimPrefix Lib.hasPrefix
  cases l with
  | nil => right; simp
  | cons c r =>
    by_cases h : c = 91
    · subst h; left; exact ⟨r, by simp⟩
    · have h' : (91 == c) = false := by rw [beq_eq_false_iff_ne]; exact fun e => h e.symm
      right; simp [h, h', List.isPrefixOf]
theorem hostOk_91 (r : List UInt8) : hostOk (91 :: r) = (r.getLast? == some 93 && decide (2 ≤ r.length) && r.dropLast.all innC) := by
  simp only [hostOk, if_true]
theorem host_in (r : List UInt8) : hostOk (91 :: r) = (Lib.hasSuffix r [93] && (!(Lib.trimSuffix r [93]).isEmpty && (Lib.trimSuffix r [93]).all innC)) := by
  rw [hostOk_91]
  unfold Lib.trimSuffix Lib.hasSuffix
  rcases List.eq_nil_or_concat r with rfl | ⟨x, c, rfl⟩
  · rfl
  · rw [List.concat_eq_append]
    by_cases hc : c = 93
    · subst hc
      have h1 : ([93] : List UInt8).isSuffixOf (x ++ [93]) = true := by rw [List.isSuffixOf_iff_suffix]; exact ⟨x, rfl⟩
      have h2 : (x ++ [(93 : UInt8)]).take ((x ++ [(93 : UInt8)]).length - [(93 : UInt8)].length) = x := by rw [List.length_append, Nat.add_sub_cancel, List.take_left' rfl]
      rw [h1, if_pos rfl, h2]
      simp only [List.getLast?_append, List.getLast?_singleton, Option.some_or, beq_self_eq_true, Bool.true_and, List.dropLast_concat, List.length_append, List.length_cons, List.length_nil]
      cases x <;> simp
    · have h1 : ([93] : List UInt8).isSuffixOf (x ++ [c]) = false := by
        rw [Bool.eq_false_iff]
        intro h
        rw [List.isSuffixOf_iff_suffix] at h
        obtain ⟨t, ht⟩ := h
        have := List.append_inj' ht rfl
        simp at this
        exact hc this.2.symm
      rw [h1]
      have h2 : ((x ++ [c]).getLast? == some 93) = false := by simp [hc]
      rw [h2]
      simp
theorem trimSuffix_len (r p : List UInt8) : (Lib.trimSuffix r p).length ≤ r.length := by
  unfold Lib.trimSuffix
  split
  · exact List.length_take_le' _ _
  · exact Nat.le_refl _
theorem host_out {l : List UInt8} (h : l.head? ≠ some 91) : hostOk l = (!l.isEmpty && l.all (ofL [freeT, subs5])) := by
  have e : (ofL [freeT, subs5]) = hostC := funext of_host
  rw [e]
  cases l with
  | nil => rfl
  | cons c r =>
    have hc : ¬ c = 91 := fun e => h (by rw [e]; rfl)
    simp only [hostOk, hc, if_false]
    rfl
theorem inn_nat (c : UInt8) : innC c = (isHex c || c.toNat == 58 || c.toNat == 46) := by
  have := all_bytes (fun c => innC c == (isHex c || c.toNat == 58 || c.toNat == 46)) (by decide +kernel) c
  exact eq_of_beq this
theorem byteLit (c : UInt8) (n : Nat) (m : Int) (hm : m = n) : ((c.toNat : Int) == m) = (c.toNat == n) := by
  subst hm
  rw [Bool.eq_iff_iff, beq_iff_eq, beq_iff_eq]; omega
theorem CutPrefix_t (s p : ByteArray) (w : World) :
    Calls Tryd.prog 168 #[.string s, .string p] w fun e w' => e = .returned (.tuple #[.string ⟨(Lib.trimPrefix s.data.toList p.data.toList).toArray⟩, .bool (Lib.hasPrefix s.data.toList p.data.toList)]) ∧ w = w' :=
  (Tryd.strings_CutPrefix s p w).mono fun _ _ ⟨h1, h2⟩ => ⟨h1, h2.symm⟩
theorem CutSuffix_t (s p : ByteArray) (hs : s.size ≤ 1000000000) (w : World) :
    Calls Tryd.prog 170 #[.string s, .string p] w fun e w' => e = .returned (.tuple #[.string ⟨(Lib.trimSuffix s.data.toList p.data.toList).toArray⟩, .bool (Lib.hasSuffix s.data.toList p.data.toList)]) ∧ w = w' :=
  (Tryd.strings_CutSuffix s p w (by omega)).mono fun _ _ ⟨h1, h2⟩ => ⟨h1, h2.symm⟩
set_option maxHeartbeats 4000000 in
theorem named_any (s : ByteArray) (hs : s.size ≤ 1000000000) (w : World) :
    Calls Tryd.prog 138 #[.string s] w fun e w' => e = .returned (.bool (hostOk s.data.toList)) ∧ Below w.heap.size w w' := by
  have CP := CutPrefix_t s ⟨#[91]⟩
  rw [show (⟨#[91]⟩ : ByteArray).data.toList = [91] from rfl] at CP
  rcases pre91 s.data.toList with ⟨r, h0, h1, h2⟩ | ⟨h0, h1, h2⟩
  · rw [h1, h2] at CP
    rw [h0, host_in r]
    obtain ⟨R, hR⟩ : ∃ R : ByteArray, (⟨r.toArray⟩ : ByteArray) = R := ⟨_, rfl⟩
    have hRs : R.size + 1 = s.size := by rw [← hR, size_mk, ← data_len, h0]; rfl
    rw [hR] at CP
    have CS := CutSuffix_t R ⟨#[93]⟩ (by omega)
    rw [show (⟨#[93]⟩ : ByteArray).data.toList = [93] from rfl, show R.data.toList = r by rw [← hR]] at CS
    have htl := trimSuffix_len r [93]
    obtain ⟨x, hx⟩ : ∃ x, Lib.trimSuffix r [93] = x := ⟨_, rfl⟩
    obtain ⟨ok, hok⟩ : ∃ x, Lib.hasSuffix r [93] = x := ⟨_, rfl⟩
    rw [hx] at htl
    rw [hx, hok] at CS ⊢
    obtain ⟨X, hX⟩ : ∃ X : ByteArray, (⟨x.toArray⟩ : ByteArray) = X := ⟨_, rfl⟩
    have hXs : X.size ≤ 1000000000 := by rw [← hX, size_mk]; rw [← hR, size_mk] at hRs; omega
    rw [hX] at CS
    have hXl : X.data.toList = x := by rw [← hX]
    rw [← hXl]
    replace CP := Lib.hid CP
    replace CS := Lib.hid CS
    clear h0 h1 h2 hx hok hX hR htl hXl
    go_enter Tryd.func138, Tryd.ntmps138
    go_wp2_with (first
      | (go_at_call 168; refine (CP.out _).mono ?_; rintro e w2 ⟨rfl, rfl⟩)
      | (go_at_call 170; refine (CS.out _).mono ?_; rintro e w2 ⟨rfl, rfl⟩))
    go_loopw [25] (fun i wr => ∃ k : Nat, k ≤ X.size ∧ i = .int .i64 k ∧ (X.data.toList.take k).all innC = true ∧ Below w.heap.size w wr) (fun i _ => X.size - (intOf i).toNat)
    case atStart => exact ⟨0, by omega, rfl, rfl, Below.refl _ _⟩
    case round =>
      obtain ⟨w0, rfl⟩ : ∃ w0 : World, w0 = wr := ⟨_, rfl⟩
      obtain ⟨k, hk, rfl, hall, hbel⟩ := hrel
      have HA := Lib.hid hall
      have HB := Lib.hid hbel
      clear hall hbel
      by_cases hlt : k < X.size
      · obtain ⟨c, hc⟩ : ∃ c, X[k] = c := ⟨_, rfl⟩
        have kI : (k : Int) < (X.size : Int) := by omega
        have HX := fun W => Hex_any (X.extract k (k + 1)) (by have : (X.extract k (k + 1)).size ≤ 1 := by simp; omega
                                                              omega) 15 (by omega) (by omega) W
        have hxl : (X.extract k (k + 1)).data.toList = [c] := by
          rw [Lib.extract_data, Nat.add_sub_cancel_left, data_drop X k hlt, hc]; rfl
        rw [hxl, hex1] at HX
        have e58 := byteLit c 58 58 rfl
        have e46 := byteLit c 46 46 rfl
        have hin := inn_nat c
        have wr1 : IntKind.i64.wrap ((k : Int) + 1) = (k : Int) + 1 := IntWalk.i64_in _ ⟨by omega, by omega⟩
        have hk1 : (k : Int) + 1 ≤ (X.size : Int) := by omega
        by_cases hi : innC c = true
        · have HN : Hid ((X.data.toList.take (k + 1)).all innC = true) := Lib.hid (by rw [data_take_succ X k hlt, hc, List.all_append, HA.out]; simp [hi])
          rw [hi] at hin
          clear hi hxl
          by_cases hh : isHex c = true
          · rw [if_pos hh] at HX
            replace HX := Lib.hid HX
            clear hin hh e58 e46
            go_wp2_with (go_at_call 171; refine (HX.out _).mono ?_; rintro e w2 ⟨rfl, hb2⟩)
            go_roundw
            case rel => exact ⟨k + 1, by omega, by go_num, HN.out, below_step HB.out hb2⟩
            case measure => simp [intOf]; omega
          · have hh' : isHex c = false := by simpa using hh
            rw [if_neg hh] at HX
            replace HX := Lib.hid HX
            rw [hh', Bool.false_or] at hin
            by_cases h58 : c.toNat = 58
            · have f58 : ((c.toNat : Int) == 58) = true := by rw [e58, h58]; rfl
              have f58' : ((c.toNat : Int) != 58) = false := by rw [bne, f58]; rfl
              clear hin hh hh' e58 e46 h58
              go_wp2_with (go_at_call 171; refine (HX.out _).mono ?_; rintro e w2 ⟨rfl, hb2⟩)
              go_roundw
              case rel => exact ⟨k + 1, by omega, by go_num, HN.out, below_step HB.out hb2⟩
              case measure => simp [intOf]; omega
            · have f58 : ((c.toNat : Int) == 58) = false := by rw [e58, beq_eq_false_iff_ne]; exact h58
              have f58' : ((c.toNat : Int) != 58) = true := by rw [bne, f58]; rfl
              have f46 : ((c.toNat : Int) == 46) = true := by
                rw [e46]
                have : (c.toNat == 58) = false := by rw [beq_eq_false_iff_ne]; exact h58
                rw [this, Bool.false_or] at hin
                exact hin.symm
              have f46' : ((c.toNat : Int) != 46) = false := by rw [bne, f46]; rfl
              clear hin hh hh' e58 e46 h58
              go_wp2_with (go_at_call 171; refine (HX.out _).mono ?_; rintro e w2 ⟨rfl, hb2⟩)
              go_roundw
              case rel => exact ⟨k + 1, by omega, by go_num, HN.out, below_step HB.out hb2⟩
              case measure => simp [intOf]; omega
        · have hi' : innC c = false := by simpa using hi
          have HN : Hid ((ok && (!X.data.toList.isEmpty && X.data.toList.all innC)) = false) := Lib.hid (by
            have : X.data.toList.all innC = false := by rw [data_split X k hlt, hc]; simp [hi']
            rw [this]; simp)
          rw [hi'] at hin
          have hin' := hin.symm
          simp only [Bool.or_eq_false_iff] at hin'
          obtain ⟨⟨hh, h58⟩, h46⟩ := hin'
          rw [if_neg (by simp [hh])] at HX
          replace HX := Lib.hid HX
          have f58 : ((c.toNat : Int) == 58) = false := by rw [e58, h58]
          have f58' : ((c.toNat : Int) != 58) = true := by rw [bne, f58]; rfl
          have f46 : ((c.toNat : Int) == 46) = false := by rw [e46, h46]
          have f46' : ((c.toNat : Int) != 46) = true := by rw [bne, f46]; rfl
          clear hin hh hi hi' e58 e46 h58 h46 hxl
          go_wp2_with (go_at_call 171; refine (HX.out _).mono ?_; rintro e w2 ⟨rfl, hb2⟩)
          go_ret
          exact ⟨ret_bool HN.out.symm, below_step HB.out hb2⟩
      · obtain rfl : k = X.size := by omega
        have hall := HA.out
        rw [List.take_of_length_le (by rw [data_len]; exact Nat.le_refl _)] at hall
        have HN : Hid ((ok && (!X.data.toList.isEmpty && X.data.toList.all innC)) = (ok && (X.toList != []))) := Lib.hid (by
          rw [hall, ByteArray.toList_eq]; cases X.data.toList <;> rfl)
        clear hall
        cases ok with
        | false =>
          go_wp2
          go_ret
          exact ⟨ret_bool (by rw [HN.out]; rfl), HB.out⟩
        | true =>
          go_wp2
          go_ret
          exact ⟨ret_bool (by rw [HN.out]; cases X.toList <;> rfl), HB.out⟩
  · rw [h1, h2, Lib.mk_data] at CP
    rw [host_out h0]
    have RO := RowAt.new w 9 [.string ⟨#[45, 46, 95, 126]⟩, .string ⟨#[33, 36, 38, 39, 40, 41, 42, 43, 44, 59, 61]⟩]
    have hin := RO.slice (size := 1) (n := 2) (c := 2) rfl (Nat.le_refl _) (by simp [maxLen])
    have ON := only_any s hs _ 2 2 [freeT, subs5] _ hin (by omega)
    obtain ⟨bb, hbb⟩ : ∃ b, (!s.data.toList.isEmpty && s.data.toList.all (ofL [freeT, subs5])) = b := ⟨_, rfl⟩
    rw [hbb] at ON ⊢
    replace ON := Lib.hid ON
    replace CP := Lib.hid CP
    clear h0 h1 h2 RO hin hbb
    go_enter Tryd.func138, Tryd.ntmps138
    go_wp2_with (first
      | (go_at_call 168; refine (CP.out _).mono ?_; rintro e w2 ⟨rfl, rfl⟩)
      | (go_at_call 169; refine ON.out.mono ?_; rintro e w2 ⟨rfl, hb2⟩))
    go_ret
    exact ⟨rfl, below_step ((Below.refl _ _).alloc (Nat.le_refl _) _) hb2⟩
end Go.Proofs.YtaddefjkjlkjnaaDoor
