/- Layer 27's laws: ScriptBounds, walked. No condition. -/
import Derived.Test.YtmcioedmjcbfbaaLaw27c
namespace Go.Proofs.Ytmcioedmjcbfbaa
open Go.RowKit IH
set_option maxRecDepth 100000
/-- So many '#', and zeros behind. -/
def hz (m j : Nat) : List UInt8 := List.replicate j 35 ++ List.replicate (m - j) 0
theorem hz_set (m j : Nat) (hj : j < m) : (bytesV (hz m j)).set j (byteV 35) = bytesV (hz m (j + 1)) := by
  have e : m - j = (m - (j + 1)) + 1 := by omega
  have h1 : hz m j = List.replicate j 35 ++ 0 :: List.replicate (m - (j + 1)) 0 := by unfold hz; rw [e, List.replicate_succ]
  have h2 : hz m (j + 1) = List.replicate j 35 ++ 35 :: List.replicate (m - (j + 1)) 0 := by unfold hz; rw [List.replicate_succ']; simp
  rw [h1, h2, bytesV_append, bytesV_append, List.set_append_right _ _ (by simp [bytesV])]
  simp [bytesV]
theorem hz_zero (m : Nat) : bytesV (hz m 0) = (madeCells (Value.int .u8 0).cells (m * 1)).toList := by
  rw [Nat.mul_one]
  have : (Value.int .u8 0).cells = #[.int .u8 0] := rfl
  rw [this, toList_madeCells_one]
  unfold hz bytesV
  simp [byteV]
theorem hz_end (m : Nat) (h : 0 < m) : (bytesV (hz m m)).set (m - 1) (byteV 10) = bytesV (List.replicate (m - 1) 35 ++ [10]) := by
  have h1 : hz m m = List.replicate (m - 1) 35 ++ [35] := by
    unfold hz
    rw [Nat.sub_self, List.replicate_zero, List.append_nil]
    conv => lhs; rw [show m = (m - 1) + 1 by omega]
    rw [List.replicate_succ']
  rw [h1, bytesV_append, bytesV_append, List.set_append_right _ _ (by simp [bytesV])]
  simp [bytesV]
theorem note_hash (m : Nat) (h : 1 < m) : scriptL (List.replicate (m - 1) 35 ++ [10]) = if 1048576 < m then ([], 0, 12) else ([], 1, 0) := by
  rw [script_note (fun c hc => by rw [(List.mem_replicate.1 hc).2]; decide) (by
    obtain ⟨k, hk⟩ : ∃ k, m - 1 = k + 1 := ⟨m - 2, by omega⟩
    rw [hk, List.replicate_succ]; rfl), List.length_replicate, show m - 1 + 1 = m by omega]
def syncD : Deed := Deed.of 10
theorem sync_right : rightD syncD = true := by decide
theorem sync_print : printD syncD = [115, 121, 110, 99] := by decide
theorem sync_I : DeedI syncD := ⟨by decide, by decide, by decide, by decide, by simp [syncD, Deed.of]⟩
theorem sync_N : DeedN syncD := ⟨by decide, by decide, by decide, by decide, by simp [syncD, Deed.of], by decide, by decide, by decide⟩
theorem syncs_len (m : Nat) : (scriptOf (List.replicate m syncD)).length = 5 * m := by
  induction m with
  | zero => rfl
  | succ m ih => rw [List.replicate_succ, scriptOf_cons, List.length_append, List.length_cons, ih, sync_print]; simp; omega
theorem syncs_right (m : Nat) : (List.replicate m syncD).all rightD = true := by
  rw [List.all_eq_true]
  intro x hx
  rw [(List.mem_replicate.1 hx).2]
  exact sync_right
theorem syncs_snoc (m : Nat) : scriptOf (List.replicate (m + 1) syncD) = scriptOf (List.replicate m syncD) ++ [115, 121, 110, 99, 10] := by
  rw [List.replicate_succ']
  unfold scriptOf
  rw [List.flatMap_append]
  simp [sync_print]
theorem syncs_all {P : Deed → Prop} (h : P syncD) (m : Nat) : ∀ d ∈ List.replicate m syncD, P d := fun d hd => by rw [(List.mem_replicate.1 hd).2]; exact h
theorem syncs_few (m : Nat) (h : m ≤ 10000) : printAll (List.replicate m syncD) = (scriptOf (List.replicate m syncD), 0) := by
  unfold printAll
  rw [if_pos (syncs_right m), if_neg (by rw [List.length_replicate]; omega), if_neg (by rw [syncs_len]; omega)]
theorem syncs_many (m : Nat) (h : 10000 < m) : printAll (List.replicate m syncD) = ([], 13) := by
  unfold printAll
  rw [if_pos (syncs_right m), if_pos (by rw [List.length_replicate]; omega)]
theorem DeedsR.take {w : World} {B : Nat} : ∀ {L : List Deed} {V : List Value} (k : Nat), DeedsR w B L V → DeedsR w B (L.take k) (V.take (k * 8))
  | [], V, k, (h : V = []) => by subst h; simp; exact rfl
  | d :: L, V, 0, _ => by simp; exact rfl
  | d :: L, V, k + 1, ⟨cs, V', h1, h2, h3⟩ => by
    refine ⟨cs, V'.take (k * 8), ?_, h2, DeedsR.take k h3⟩
    have h8 := h2.length
    rw [h1, List.take_append, List.take_of_length_le (by omega), h8, show (k + 1) * 8 - 8 = k * 8 by omega]
theorem bounds4 {n : Int} : 0 ≤ Int.tmod (Int.tmod n 4 + 4) 4 ∧ Int.tmod (Int.tmod n 4 + 4) 4 < 4 := by
  have h1 : -4 < Int.tmod n 4 := Int.lt_tmod_of_pos n (by omega)
  have h2 : 0 ≤ Int.tmod n 4 + 4 := by omega
  rw [Int.tmod_eq_emod_of_nonneg h2]
  exact ⟨Int.emod_nonneg _ (by omega), Int.emod_lt_of_pos _ (by omega)⟩
set_option maxHeartbeats 16000000 in
theorem sbounds_walk (w : World) (a : Int) (_ha : (Lit.int .i64 a).wf = true) :
    Calls Try.prog 9 #[.int .i64 a] w fun e w' => e = .returned (.bool true) ∧ Below w.heap.size w w' := by
  have AW := Lib.hid (awake27_any w)
  have a1 : -4 < Int.tmod a 4 := Int.lt_tmod_of_pos a (by omega)
  have a2 : Int.tmod a 4 < 4 := Int.tmod_lt_of_pos a (by omega)
  go_enter Try.func9, Try.ntmps9
  go_upto_region 4 with (go_at_call 22; refine AW.out.mono ?_; rintro e w2 ⟨rfl, hb2⟩; have B2 := Lib.hid hb2; clear hb2)
  obtain ⟨k, hk⟩ : ∃ k, (Int.tmod a 4 + 4) % 4 = k := ⟨_, rfl⟩
  have k0 : 0 ≤ k := by omega
  have k1 : k < 4 := by omega
  rw [hk]
  obtain ⟨K, rfl⟩ : ∃ K : Nat, k = K := ⟨k.toNat, by omega⟩
  obtain ⟨m, hm⟩ : ∃ m : Nat, 9998 + K = m := ⟨_, rfl⟩
  have hmI : (9998 : Int) + (K : Int) = (m : Int) := by omega
  have m0 : 9998 ≤ m := by omega
  have m1 : m ≤ 10001 := by omega
  have hK3 : K ≤ 3 := by omega
  have Hm := Lib.hid hm
  have hB2 := B2.out.size
  clear hk a1 a2 k0 k1 hm
  go_wp2_with fail
  go_loopw [4, 6] (fun v i wr => ∃ (j : Nat) (V : List Value), j ≤ m ∧ i = .int .i64 j ∧ wr.ownsRow w.heap.size 53 8 v j V ∧ DeedsV wr w.heap.size (List.replicate j syncD) V ∧ Below w.heap.size w wr) (fun _ i _ => m - (intOf i).toNat)
  case atStart => exact ⟨0, [], by omega, rfl, World.ownsRow_nil _ _ _ _, rfl, B2.out⟩
  case round =>
    clear B2
    obtain ⟨w0, rfl⟩ : ∃ w0 : World, w0 = wr := ⟨_, rfl⟩
    obtain ⟨j, V, hj, rfl, hrow, hdv, hbel⟩ := hrel
    have HO := Lib.hid hrow
    have HV := Lib.hid hdv
    have HB := Lib.hid hbel
    have hws := hbel.size
    clear hrow hdv hbel
    by_cases hlt : j < m
    · have jI : (j : Int) < (m : Int) := by omega
      go_wp2_with (at_builtin; refine wpList_app2 deed_ty rfl _ _ rfl w.heap.size _ _ _ rfl HO.out 1 1 (cells8 syncD (.slice none 0 0) (.slice none 0 0) (.slice none 0 0)) _ rfl (by simp) (by rfl) (Own3.nil w0 0 syncD rfl rfl rfl).one (by omega) (by simp only [maxLen]; omega) (by omega) ?_; intro v' w4 hown hgr)
      go_roundw
      case rel =>
        have K4 := Kept3.grown hgr fun q hq => by
          obtain ⟨cur, h5, _⟩ := own_block HO.out q hq
          exact ⟨cur, _, h5, by decide⟩
        refine ⟨j + 1, V ++ cells8 syncD (.slice none 0 0) (.slice none 0 0) (.slice none 0 0), hlt, by go_num, hown, ?_, HB.out.grown hgr hws fun q hq => (own_block HO.out q hq).choose_spec.2⟩
        rw [List.replicate_succ']
        exact DeedsV.snoc (Own3.nil w4 w.heap.size syncD rfl rfl rfl) (DeedsV.keep K4 HV.out)
      case measure => simp [intOf]; omega
    · obtain rfl : m = j := by omega
      obtain ⟨A, c, rfl, hsl⟩ := own_slice HO.out
      have HDR := DeedsV.read HV.out
      have DI : DeedsIn w0 A m c (List.replicate m syncD) V := ⟨hsl, HDR, syncs_all sync_N m⟩
      have PA := Lib.hid (sPrint_any A m c _ V w0 DI (by omega))
      have S0 := Lib.hid hsl
      have R0 := Lib.hid HDR
      have hlenU := syncs_len m
      obtain ⟨M, hM⟩ : ∃ M : Nat, 1048574 + K = M := ⟨_, rfl⟩
      have hMI : (1048574 : Int) + (K : Int) = (M : Int) := by omega
      have HM := Lib.hid hM
      have M0 : 1048574 ≤ M := by omega
      have M1 : M ≤ 1048577 := by omega
      clear hsl HDR DI hlt HO HV hM
      by_cases hK2 : K ≤ 2
      · have kI : (K : Int) ≤ 2 := by omega
        have kD : decide ((K : Int) ≤ 2) = true := by simpa using kI
        have hm4 : m ≤ 10000 := by have := Hm.out; omega
        rw [syncs_few m hm4] at PA
        obtain ⟨T, hT⟩ : ∃ T : ByteArray, (⟨(scriptOf (List.replicate m syncD)).toArray⟩ : ByteArray) = T := ⟨_, rfl⟩
        have hTs : T.size ≤ 60000 := by rw [← hT, size_mk, hlenU]; omega
        simp only at PA
        rw [hT] at PA
        have SP := fun w => sParse_any T (by omega) w
        rw [show T.data.toList = scriptOf (List.replicate m syncD) by rw [← hT], script_print (fun d hd => right_ok (by rw [(List.mem_replicate.1 hd).2]; exact sync_right) (by rw [(List.mem_replicate.1 hd).2]; exact sync_I)) (by rw [List.length_replicate]; omega) (by rw [hlenU]; omega), List.length_replicate] at SP
        simp only at SP
        replace SP := Lib.hid SP
        clear hT hlenU S0 R0 hK2
        go_upto_region 20 with (first
          | (go_at_call 34; refine PA.out.mono ?_; rintro e w3 ⟨rfl, hb3⟩; have B3 := Lib.hid (HB.out.trans (hb3.mono hws)); clear hb3)
          | (go_at_call 23; refine (SP.out _).mono ?_; rintro e w4 ⟨v4, V4, rfl, ho4, _, hb4⟩; have B4 := Lib.hid (B3.out.trans (hb4.mono B3.out.size)); obtain ⟨A4, c4, rfl, _⟩ := own_slice ho4; clear ho4 hb4))
        obtain ⟨i0, hi, hz0, hz1, hz2⟩ := info_parts u8_ty.hi
        have hBs := B4.out.size
        obtain ⟨P, hP⟩ : ∃ P : Nat, P + 1 = M := ⟨M - 1, by omega⟩
        have hPI : (M : Int) - 1 = (P : Int) := by omega
        have SPN : Hid (∀ w, Calls Try.prog 23 #[.string ⟨(List.replicate P (35 : UInt8) ++ [10]).toArray⟩] w fun e w' => ∃ v V, e = .returned (.tuple #[v, .int .i64 (1), .int .i64 (0)]) ∧ w'.ownsRow w.heap.size 53 8 v 0 V ∧ Below w.heap.size w w') := Lib.hid (fun w => by
          have h := sParse_any ⟨(List.replicate P (35 : UInt8) ++ [10]).toArray⟩ (by rw [size_mk, List.length_append, List.length_replicate]; simp; omega) w
          have hd : (⟨(List.replicate P (35 : UInt8) ++ [10]).toArray⟩ : ByteArray).data.toList = List.replicate (M - 1) (35 : UInt8) ++ [10] := by rw [show M - 1 = P by omega]
          rw [hd, note_hash M (by omega), if_neg (by omega)] at h
          refine h.mono ?_
          rintro e w' ⟨v, V, he, ho, _, hb⟩
          exact ⟨v, V, he, ho, hb⟩)
        have HPM := Lib.hid hP
        clear hP
        go_wp2_with (at_make; refine wpList_make_full _ rfl _ _ 47 rfl w.heap.size 5 i0 (.int .u8 0) 1 Try.underlying47 hi hz0 hz1 .i64 .i64 _ _ M rfl rfl (by omega) (by omega) (by rw [hz2]; omega) (by simp only [maxLen]; omega) hBs ?_; intro w7 hown7 hgr7; rw [← hz_zero] at hown7; have R7 := Lib.hid hown7; have B7 := Lib.hid (B4.out.grown hgr7 hBs (fun q hq => by cases hq)); clear hown7 hgr7)
        clear hi hz0 hz1 hz2
        obtain ⟨gB, hgB⟩ : ∃ g, w4.heap.size = g := ⟨_, rfl⟩
        rw [hgB] at R7 hBs ⊢
        clear hgB
        go_loopw [15] (fun i wr => ∃ j : Nat, j ≤ M ∧ i = .int .i64 j ∧ wr.ownsRow w.heap.size 5 1 (.slice (some ⟨gB, 0, none⟩) M M) M (bytesV (hz M j)) ∧ Below w.heap.size w wr) (fun i _ => M - (intOf i).toNat)
        case atStart => exact ⟨0, by omega, rfl, R7.out, B7.out⟩
        case round =>
          clear R7 B7
          obtain ⟨w0, rfl⟩ : ∃ w0 : World, w0 = wr := ⟨_, rfl⟩
          obtain ⟨j, hj, rfl, hrow, hbel⟩ := hrel
          have Hrow := Lib.hid hrow
          have HBe := Lib.hid hbel
          clear hrow hbel
          by_cases hlt : j < M
          · obtain ⟨y0, e0⟩ : ∃ v, w0.cell? ⟨gB, j, none⟩ = some v := by
              have hl := Hrow.out.1
              exact ⟨_, by rw [Hrow.out.cellAt j (by omega), List.getElem?_eq_getElem (by omega)]⟩
            have f0 := Hrow.out.frozenAt j
            have hst := Hrow.out.stored j (.int .u8 35)
            have e35 : Value.int .u8 35 = byteV 35 := rfl
            rw [e35, hz_set M j hlt] at hst
            have Hst := Lib.hid hst
            have hbs := HBe.out.size
            have jI : (j : Int) < (M : Int) := by omega
            clear hst e35
            go_wp2
            go_roundw
            case rel => exact ⟨j + 1, by omega, by go_num, Hst.out.1, HBe.out.grown Hst.out.2 hbs (fun q hq => by injection hq with hq; omega)⟩
            case measure => simp [intOf]; omega
          · obtain rfl : M = j := by omega
            have hPM : P < M := by have := HPM.out; omega
            obtain ⟨y0, e0⟩ : ∃ v, w0.cell? ⟨gB, P, none⟩ = some v := by
              have hl := Hrow.out.1
              exact ⟨_, by rw [Hrow.out.cellAt P (by omega), List.getElem?_eq_getElem (by omega)]⟩
            have f0 := Hrow.out.frozenAt P
            have hst := Hrow.out.stored P (.int .u8 10)
            have e35 : Value.int .u8 10 = byteV 10 := rfl
            have hend := hz_end M (by omega)
            rw [show M - 1 = P by have := HPM.out; omega] at hend
            rw [e35, hend] at hst
            have hPI2 : (P : Int) < (M : Int) := by omega
            have hP0 : (0 : Int) ≤ (P : Int) := by omega
            have BZ := Lib.hid (HBe.out.grown hst.2 HBe.out.size (fun q hq => by injection hq with hq; omega))
            have hc1 := run_string_of (P := Try.prog) (SliceIn.of_own hst.1) 47 9 5 Try.underlying47 Try.underlying5 Try.underlying9
            rw [← e35] at hc1 BZ
            have HC := Lib.hid hc1
            clear hst hend hlt e35 hc1
            go_upto_region 26 with fail
            have hc2 := HC.out
            obtain ⟨wz, hwz⟩ : ∃ W, w0.setCell ⟨gB, P, none⟩ (.int .u8 10) = W := ⟨_, rfl⟩
            rw [hwz] at hc2 BZ ⊢
            clear hwz HC e0 f0
            obtain ⟨Z, hZ⟩ : ∃ Z : ByteArray, (⟨(List.replicate P (35 : UInt8) ++ [10]).toArray⟩ : ByteArray) = Z := ⟨_, rfl⟩
            rw [hZ] at hc2 SPN
            clear hZ
            go_wp2_with (go_at_call 23; refine (SPN.out _).mono ?_; rintro e w9 ⟨v9, V9, rfl, ho9, hb9⟩)
            go_ret
            exact ⟨rfl, BZ.out.trans (hb9.mono BZ.out.size)⟩
      · have kI : (2 : Int) < (K : Int) := by omega
        have kD : decide ((K : Int) ≤ 2) = false := by rw [decide_eq_false_iff_not]; omega
        have hm4 : m = 10001 := by have := Hm.out; omega
        rw [syncs_many m (by omega)] at PA
        obtain ⟨T, hT⟩ : ∃ T : ByteArray, (⟨(scriptOf (List.replicate 10000 syncD)).toArray⟩ : ByteArray) = T := ⟨_, rfl⟩
        have hTs : T.size ≤ 60000 := by rw [← hT, size_mk, syncs_len]; omega
        have hTd : (T ++ (⟨#[115, 121, 110, 99, 10]⟩ : ByteArray)).data.toList = scriptOf (List.replicate 10001 syncD) := by rw [append_data, ← hT]; exact (syncs_snoc 10000).symm
        have SP := fun w => sParse_any (T ++ (⟨#[115, 121, 110, 99, 10]⟩ : ByteArray)) (by rw [← data_len, hTd, syncs_len]; omega) w
        rw [hTd, script_many (fun d hd => right_ok (by rw [(List.mem_replicate.1 hd).2]; exact sync_right) (by rw [(List.mem_replicate.1 hd).2]; exact sync_I)) (by rw [List.length_replicate]; omega) (by rw [syncs_len]; omega)] at SP
        simp only [List.length_nil] at SP
        replace SP := Lib.hid SP
        have h10 : (List.replicate m syncD).take 10000 = List.replicate 10000 syncD := by rw [List.take_replicate, hm4]; rfl
        have hsub := S0.out.sub (a := 0) (b := 10000) (by omega) (by omega) A (fun _ => by
          cases A with
          | none => rfl
          | some x => simp [Addr.add])
        rw [Nat.zero_mul, List.drop_zero, Nat.sub_zero, Nat.sub_zero] at hsub
        have hRt := DeedsR.take 10000 R0.out
        rw [h10] at hRt
        have PB := Lib.hid (fun (W : World) (hW : Below w0.heap.size w0 W) => sPrint_any A 10000 c _ _ W ((⟨hsub, hRt, syncs_all sync_N 10000⟩ : DeedsIn w0 A 10000 c (List.replicate 10000 syncD) (V.take (10000 * 8))).below hW) (by omega))
        rw [syncs_few 10000 (Nat.le_refl _)] at PB
        simp only at PB PA
        rw [hT] at PB
        have hcm := S0.out.2.1
        have hcI : (10000 : Int) ≤ (c : Int) := by omega
        clear hT hlenU S0 R0 hK2 hsub hRt hTd h10
        obtain rfl := hm4
        go_upto_region 20 with (first
          | (go_at_call_of 34 (Value.slice A 10001 c); refine PA.out.mono ?_; rintro e w3 ⟨rfl, hb3⟩; have B3 := Lib.hid (HB.out.trans (hb3.mono hws)); have E3 := Lib.hid hb3; clear hb3)
          | (go_at_call_of 34 (Value.slice A 10000 c); refine (PB.out _ E3.out).mono ?_; rintro e w5 ⟨rfl, hb5⟩; have B5 := Lib.hid (B3.out.trans (hb5.mono B3.out.size)); clear hb5)
          | (go_at_call 23; refine (SP.out _).mono ?_; rintro e w4 ⟨v4, V4, rfl, ho4, _, hb4⟩; have B4 := Lib.hid (B5.out.trans (hb4.mono B5.out.size)); obtain ⟨A4, c4, rfl, _⟩ := own_slice ho4; clear ho4 hb4))
        obtain ⟨i0, hi, hz0, hz1, hz2⟩ := info_parts u8_ty.hi
        have hBs := B4.out.size
        obtain ⟨P, hP⟩ : ∃ P : Nat, P + 1 = M := ⟨M - 1, by omega⟩
        have hPI : (M : Int) - 1 = (P : Int) := by omega
        have SPN : Hid (∀ w, Calls Try.prog 23 #[.string ⟨(List.replicate P (35 : UInt8) ++ [10]).toArray⟩] w fun e w' => ∃ v V, e = .returned (.tuple #[v, .int .i64 (0), .int .i64 (12)]) ∧ w'.ownsRow w.heap.size 53 8 v 0 V ∧ Below w.heap.size w w') := Lib.hid (fun w => by
          have h := sParse_any ⟨(List.replicate P (35 : UInt8) ++ [10]).toArray⟩ (by rw [size_mk, List.length_append, List.length_replicate]; simp; omega) w
          have hd : (⟨(List.replicate P (35 : UInt8) ++ [10]).toArray⟩ : ByteArray).data.toList = List.replicate (M - 1) (35 : UInt8) ++ [10] := by rw [show M - 1 = P by omega]
          rw [hd, note_hash M (by omega), if_pos (by have := HM.out; omega)] at h
          refine h.mono ?_
          rintro e w' ⟨v, V, he, ho, _, hb⟩
          exact ⟨v, V, he, ho, hb⟩)
        have HPM := Lib.hid hP
        clear hP
        go_wp2_with (at_make; refine wpList_make_full _ rfl _ _ 47 rfl w.heap.size 5 i0 (.int .u8 0) 1 Try.underlying47 hi hz0 hz1 .i64 .i64 _ _ M rfl rfl (by omega) (by omega) (by rw [hz2]; omega) (by simp only [maxLen]; omega) hBs ?_; intro w7 hown7 hgr7; rw [← hz_zero] at hown7; have R7 := Lib.hid hown7; have B7 := Lib.hid (B4.out.grown hgr7 hBs (fun q hq => by cases hq)); clear hown7 hgr7)
        clear hi hz0 hz1 hz2
        obtain ⟨gB, hgB⟩ : ∃ g, w4.heap.size = g := ⟨_, rfl⟩
        rw [hgB] at R7 hBs ⊢
        clear hgB
        go_loopw [15] (fun i wr => ∃ j : Nat, j ≤ M ∧ i = .int .i64 j ∧ wr.ownsRow w.heap.size 5 1 (.slice (some ⟨gB, 0, none⟩) M M) M (bytesV (hz M j)) ∧ Below w.heap.size w wr) (fun i _ => M - (intOf i).toNat)
        case atStart => exact ⟨0, by omega, rfl, R7.out, B7.out⟩
        case round =>
          clear R7 B7
          obtain ⟨w0, rfl⟩ : ∃ w0 : World, w0 = wr := ⟨_, rfl⟩
          obtain ⟨j, hj, rfl, hrow, hbel⟩ := hrel
          have Hrow := Lib.hid hrow
          have HBe := Lib.hid hbel
          clear hrow hbel
          by_cases hlt : j < M
          · obtain ⟨y0, e0⟩ : ∃ v, w0.cell? ⟨gB, j, none⟩ = some v := by
              have hl := Hrow.out.1
              exact ⟨_, by rw [Hrow.out.cellAt j (by omega), List.getElem?_eq_getElem (by omega)]⟩
            have f0 := Hrow.out.frozenAt j
            have hst := Hrow.out.stored j (.int .u8 35)
            have e35 : Value.int .u8 35 = byteV 35 := rfl
            rw [e35, hz_set M j hlt] at hst
            have Hst := Lib.hid hst
            have hbs := HBe.out.size
            have jI : (j : Int) < (M : Int) := by omega
            clear hst e35
            go_wp2
            go_roundw
            case rel => exact ⟨j + 1, by omega, by go_num, Hst.out.1, HBe.out.grown Hst.out.2 hbs (fun q hq => by injection hq with hq; omega)⟩
            case measure => simp [intOf]; omega
          · obtain rfl : M = j := by omega
            have hPM : P < M := by have := HPM.out; omega
            obtain ⟨y0, e0⟩ : ∃ v, w0.cell? ⟨gB, P, none⟩ = some v := by
              have hl := Hrow.out.1
              exact ⟨_, by rw [Hrow.out.cellAt P (by omega), List.getElem?_eq_getElem (by omega)]⟩
            have f0 := Hrow.out.frozenAt P
            have hst := Hrow.out.stored P (.int .u8 10)
            have e35 : Value.int .u8 10 = byteV 10 := rfl
            have hend := hz_end M (by omega)
            rw [show M - 1 = P by have := HPM.out; omega] at hend
            rw [e35, hend] at hst
            have hPI2 : (P : Int) < (M : Int) := by omega
            have hP0 : (0 : Int) ≤ (P : Int) := by omega
            have BZ := Lib.hid (HBe.out.grown hst.2 HBe.out.size (fun q hq => by injection hq with hq; omega))
            have hc1 := run_string_of (P := Try.prog) (SliceIn.of_own hst.1) 47 9 5 Try.underlying47 Try.underlying5 Try.underlying9
            rw [← e35] at hc1 BZ
            have HC := Lib.hid hc1
            clear hst hend hlt e35 hc1
            go_upto_region 26 with fail
            have hc2 := HC.out
            obtain ⟨wz, hwz⟩ : ∃ W, w0.setCell ⟨gB, P, none⟩ (.int .u8 10) = W := ⟨_, rfl⟩
            rw [hwz] at hc2 BZ ⊢
            clear hwz HC e0 f0
            obtain ⟨Z, hZ⟩ : ∃ Z : ByteArray, (⟨(List.replicate P (35 : UInt8) ++ [10]).toArray⟩ : ByteArray) = Z := ⟨_, rfl⟩
            rw [hZ] at hc2 SPN
            clear hZ
            go_wp2_with (go_at_call 23; refine (SPN.out _).mono ?_; rintro e w9 ⟨v9, V9, rfl, ho9, hb9⟩)
            go_ret
            exact ⟨rfl, BZ.out.trans (hb9.mono BZ.out.size)⟩
end Go.Proofs.Ytmcioedmjcbfbaa
