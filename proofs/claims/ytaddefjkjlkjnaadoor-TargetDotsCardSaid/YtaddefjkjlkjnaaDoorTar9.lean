/- Walk of layer 5: a path without dots, by the code. Condition: the world's shape; a path that begins with a slash, of at most 10^8 octets. -/
import Derived.Test.YtaddefjkjlkjnaaDoorTar5
import Derived.Test.YtaddefjkjlkjnaaDoorShape
namespace Go.Proofs.YtaddefjkjlkjnaaDoor
open Go.RowKit IH
set_option maxRecDepth 100000
theorem own_cut {w : World} {base : Nat} {e : TypeId} {size g n cap : Nat} {xs : List Value} (h : w.ownsRow base e size (.slice (some ⟨g, 0, none⟩) n cap) n xs) (k : Nat) (hk : k ≤ n) : w.ownsRow base e size (.slice (some ⟨g, 0, none⟩) k cap) k (xs.take (k * size)) := by
  obtain ⟨hl, hor⟩ := h
  have hks : k * size ≤ n * size := Nat.mul_le_mul_right _ hk
  rcases hor with ⟨h0, _⟩ | ⟨g', cap', cur, hv, hg, hh, hn, hc, hs, ht⟩
  · cases h0
  · simp only [Value.slice.injEq, Option.some.injEq, Addr.mk.injEq, and_true, true_and] at hv
    obtain ⟨rfl, rfl⟩ := hv
    refine ⟨by rw [List.length_take, hl]; omega, .inr ⟨g, cap, cur, rfl, hg, hh, by omega, hc, hs, ?_⟩⟩
    rw [← ht, List.take_take, Nat.min_eq_left hks]
theorem strsV_take (L : List (List UInt8)) (k : Nat) : (strsV L).take k = strsV (L.take k) := by simp [strsV, List.map_take]
theorem flat_ge (l : List (List UInt8)) : l.length ≤ (flat l).length := by
  induction l with
  | nil => simp
  | cons a l ih => rw [flat_cons]; simp only [List.length_cons, List.length_append]; omega
set_option maxHeartbeats 16000000 in
theorem segments_any (s : ByteArray) (hs : s.size ≤ 100000000) (hh : s.data.toList.head? = some 47) (w : World) (hsh : w.ShapedOpen Tryd.prog) :
    Calls Tryd.prog 140 #[.string s] w fun e w' => e = .returned (.string ⟨(segL s.data.toList).toArray⟩) ∧ Below w.heap.size w w' := by
  obtain ⟨l, hl0, hl1, hl2, _⟩ := path_flat hh
  have hpc : pieces 47 s.data.toList = (pieces 47 s.data.toList).head (pieces_ne _ _) :: l := by rw [← hl1]; exact (List.cons_head_tail _).symm
  obtain ⟨p, hp⟩ : ∃ p, (pieces 47 s.data.toList).head (pieces_ne _ _) = p := ⟨_, rfl⟩
  rw [hp] at hpc
  have SP := Split1_any s 47 w hsh (by omega)
  have hseg : segL s.data.toList = flat (segGo l []) := by unfold segL; rw [hl1]
  have hsl := seg_length hh
  have hfl := flat_length_mem l
  have hln : l.length ≤ 100000000 := by
    have h1 := flat_ge l
    rw [← hl2, data_len] at h1
    omega
  have hne := segGo_ne l [] hl0
  rw [data_len] at hsl
  rw [hseg] at hsl ⊢
  rw [hpc] at SP
  obtain ⟨m, hm⟩ : ∃ m, l.length = m := ⟨_, rfl⟩
  rw [List.length_cons, hm] at SP
  have hm0 : 0 < m := by rw [← hm]; exact List.length_pos_iff.2 hl0
  obtain ⟨X, hX⟩ : ∃ X, segGo l [] = X := ⟨_, rfl⟩
  rw [hX] at hsl hne ⊢
  have HX := Lib.hid hX
  have HM := Lib.hid hm
  have HNE := Lib.hid hne
  have hml : m ≤ 100000000 := by omega
  clear hp hpc hseg hfl hX hm hh hl0 hl1 hl2 hln hne hsh
  replace SP := Lib.hid SP
  go_enter Tryd.func140, Tryd.ntmps140
  go_wp2_with (go_at_call 174; refine SP.out.mono ?_; rintro e w2 ⟨rfl, hr2, hb2⟩; have R2 := Lib.hid hr2; have B2 := Lib.hid hb2; clear hr2 hb2)
  go_loopw [4, 13] (fun out i wr => ∃ (k : Nat) (O : List (List UInt8)), k ≤ m ∧ i = .int .i64 k ∧ O.length ≤ k ∧ segGo (l.drop k) O = X ∧ wr.ownsRow w2.heap.size 9 1 out O.length (strsV O) ∧ Below w2.heap.size w2 wr) (fun _ i _ => m - (intOf i).toNat)
  case atStart => exact ⟨0, [], by omega, rfl, by simp, HX.out, World.ownsRow_nil _ _ _ _, Below.refl _ _⟩
  case round =>
    obtain ⟨w0, rfl⟩ : ∃ w0 : World, w0 = wr := ⟨_, rfl⟩
    obtain ⟨k, O, hk, rfl, hOk, hat, hrow, hbel⟩ := hrel
    have HO := Lib.hid hrow
    have HB := Lib.hid hbel
    have hws := hbel.size
    obtain ⟨N, hN⟩ : ∃ N, O.length = N := ⟨_, rfl⟩
    by_cases hlt : k < m
    · obtain ⟨x, hx⟩ : ∃ x, l[k]? = some x := ⟨_, List.getElem?_eq_getElem (by rw [HM.out]; exact hlt)⟩
      have hdr : l.drop k = x :: l.drop (k + 1) := by
        obtain ⟨hlk, rfl⟩ := List.getElem?_eq_some_iff.1 hx
        exact List.drop_eq_getElem_cons hlk
      have c0 : w0.cell? ⟨w.heap.size, 1 + k, none⟩ = some (.string ⟨x.toArray⟩) := by
        rw [hbel.cell (p := ⟨w.heap.size, 1 + k, none⟩) R2.out.lt]
        exact R2.out.cell (j := 1 + k) (by rw [strsV_get, show 1 + k = k + 1 by omega, List.getElem?_cons_succ, hx]; rfl)
      obtain ⟨S, hS⟩ : ∃ S : ByteArray, (⟨x.toArray⟩ : ByteArray) = S := ⟨_, rfl⟩
      rw [hS] at c0
      have hSl : S.data.toList = x := by rw [← hS]
      have kI : (k : Int) < (m : Int) := by omega
      rw [hdr] at hat
      have hlast : (l.drop (k + 1) = []) ↔ k + 1 = m := by
        rw [List.drop_eq_nil_iff, HM.out]; omega
      have wm1 : IntKind.i64.wrap ((m : Int) - 1) = (m : Int) - 1 := IntWalk.i64_in _ ⟨by omega, by omega⟩
      have wN : IntKind.i64.wrap ((N : Int) - 1) = (N : Int) - 1 := IntWalk.i64_in _ ⟨by omega, by omega⟩
      rw [hN] at HO hOk
      clear hrow hbel hdr hx
      by_cases hdd : x = [46, 46]
      · have e2 : (S.toList == [46, 46]) = true := by rw [ByteArray.toList_eq, hSl, hdd]; rfl
        have e1 : (S.toList == [46]) = false := by rw [ByteArray.toList_eq, hSl, hdd]; rfl
        rw [seg_dots x _ _ (by rw [hdd]; rfl), if_pos hdd] at hat
        clear hS hSl hdd
        by_cases hO : O = []
        · have hN0 : N = 0 := by rw [← hN, hO]; rfl
          rw [hO, List.dropLast_nil] at hat
          have hOs : strsV O = [] := by rw [hO]; rfl
          rw [hN0, hOs] at HO
          subst hN0
          by_cases hz : k + 1 = m
          · rw [if_pos (hlast.2 hz)] at hat
            have HAT := Lib.hid hat
            have hzI : ((k : Int) == (m : Int) - 1) = true := by rw [beq_iff_eq]; omega
            clear hat hlast hO hN hOs
            obtain ⟨A, cp, rfl, _⟩ := own_slice HO.out
            go_wp2_with (at_builtin; refine wpList_app str_ty rfl _ _ rfl w2.heap.size _ _ _ rfl HO.out 1 1 [.string ⟨#[]⟩] rfl (by rfl) (one1 _ rfl) (by omega) (by simp only [maxLen]; omega) hws ?_; intro v' w4 hown hgr)
            go_roundw
            case rel => exact ⟨k + 1, [[]], by omega, by go_num, by simp, by rw [List.drop_eq_nil_of_le (by rw [HM.out]; omega)]; exact HAT.out, hown, HB.out.grown hgr hws fun z hz => (HO.out.lt z hz).1⟩
            case measure => simp [intOf]; omega
          · rw [if_neg (fun h => hz (hlast.1 h))] at hat
            have HAT := Lib.hid hat
            have hzI : ((k : Int) == (m : Int) - 1) = false := by rw [beq_eq_false_iff_ne]; omega
            clear hat hlast hO hN hOs
            obtain ⟨A, cp, rfl, _⟩ := own_slice HO.out
            go_wp2
            go_roundw
            case rel => exact ⟨k + 1, [], by omega, by go_num, by simp, HAT.out, HO.out, HB.out⟩
            case measure => simp [intOf]; omega
        · have hN0 : 0 < N := by rw [← hN]; exact List.length_pos_iff.2 hO
          rcases HO.out.2 with ⟨_, h0⟩ | ⟨g, cp, cur, rfl, _, _, hcap, _⟩
          · omega
          have hct := own_cut HO.out (N - 1) (by omega)
          rw [Nat.mul_one, strsV_take] at hct
          have hdl : O.take (N - 1) = O.dropLast := by rw [List.dropLast_eq_take, hN]
          rw [hdl] at hct
          have HO2 := Lib.hid hct
          have hDl : O.dropLast.length = N - 1 := by rw [List.length_dropLast, hN]
          have HDl := Lib.hid hDl
          have hNI : (0 : Int) < (N : Int) := by omega
          have hN1 : (N : Int) - 1 = ((N - 1 : Nat) : Int) := by omega
          obtain ⟨q, hq⟩ : ∃ q, N - 1 = q := ⟨_, rfl⟩
          rw [hq] at HO2 HDl hN1
          rw [hN1] at wN
          have hqN : q ≤ N := by omega
          have hqc : q ≤ cp := by omega
          have hqI : (q : Int) ≤ (cp : Int) := by omega
          have hq0 : (0 : Int) ≤ (q : Int) := by omega
          have hqk : q ≤ k := by omega
          by_cases hz : k + 1 = m
          · rw [if_pos (hlast.2 hz)] at hat
            have HAT := Lib.hid hat
            have hzI : ((k : Int) == (m : Int) - 1) = true := by rw [beq_iff_eq]; omega
            clear hat hlast hO hct hdl hDl hq
            go_wp2_with (at_builtin; refine wpList_app str_ty rfl _ _ rfl w2.heap.size _ _ _ rfl HO2.out 1 1 [.string ⟨#[]⟩] rfl (by rfl) (one1 _ rfl) (by omega) (by simp only [maxLen]; omega) hws ?_; intro v' w4 hown hgr)
            go_roundw
            case rel => exact ⟨k + 1, O.dropLast ++ [[]], by omega, by go_num, by rw [List.length_append, HDl.out]; simp; omega, by rw [List.drop_eq_nil_of_le (by rw [HM.out]; omega)]; exact HAT.out, by rw [List.length_append, HDl.out, show strsV (O.dropLast ++ [[]]) = strsV O.dropLast ++ [.string ⟨#[]⟩] by simp [strsV]]; exact hown, HB.out.grown hgr hws fun z hz => (HO2.out.lt z hz).1⟩
            case measure => simp [intOf]; omega
          · rw [if_neg (fun h => hz (hlast.1 h))] at hat
            have HAT := Lib.hid hat
            have hzI : ((k : Int) == (m : Int) - 1) = false := by rw [beq_eq_false_iff_ne]; omega
            clear hat hlast hO hct hdl hDl hq
            go_wp2
            go_roundw
            case rel => exact ⟨k + 1, O.dropLast, by omega, by go_num, by rw [HDl.out]; omega, HAT.out, by rw [HDl.out]; exact HO2.out, HB.out⟩
            case measure => simp [intOf]; omega
      · have e2 : (S.toList == [46, 46]) = false := by rw [beq_eq_false_iff_ne, ByteArray.toList_eq, hSl]; exact hdd
        by_cases hd : x = [46]
        · have e1 : (S.toList == [46]) = true := by rw [ByteArray.toList_eq, hSl, hd]; rfl
          rw [seg_dots x _ _ (by rw [hd]; rfl), if_neg hdd] at hat
          clear hS hSl hdd hd
          obtain ⟨A, cp, rfl, _⟩ := own_slice HO.out
          by_cases hz : k + 1 = m
          · rw [if_pos (hlast.2 hz)] at hat
            have HAT := Lib.hid hat
            have hzI : ((k : Int) == (m : Int) - 1) = true := by rw [beq_iff_eq]; omega
            have HN := Lib.hid hN
            clear hat hlast hN
            go_wp2_with (at_builtin; refine wpList_app str_ty rfl _ _ rfl w2.heap.size _ _ _ rfl HO.out 1 1 [.string ⟨#[]⟩] rfl (by rfl) (one1 _ rfl) (by omega) (by simp only [maxLen]; omega) hws ?_; intro v' w4 hown hgr)
            go_roundw
            case rel => exact ⟨k + 1, O ++ [[]], by omega, by go_num, by rw [List.length_append, HN.out]; simp; omega, by rw [List.drop_eq_nil_of_le (by rw [HM.out]; omega)]; exact HAT.out, by rw [List.length_append, HN.out, show strsV (O ++ [[]]) = strsV O ++ [.string ⟨#[]⟩] by simp [strsV]]; exact hown, HB.out.grown hgr hws fun z hz => (HO.out.lt z hz).1⟩
            case measure => simp [intOf]; omega
          · rw [if_neg (fun h => hz (hlast.1 h))] at hat
            have HAT := Lib.hid hat
            have hzI : ((k : Int) == (m : Int) - 1) = false := by rw [beq_eq_false_iff_ne]; omega
            have HN := Lib.hid hN
            clear hat hlast hN
            go_wp2
            go_roundw
            case rel => exact ⟨k + 1, O, by omega, by go_num, by rw [HN.out]; omega, HAT.out, by rw [HN.out]; exact HO.out, HB.out⟩
            case measure => simp [intOf]; omega
        · have e1 : (S.toList == [46]) = false := by rw [beq_eq_false_iff_ne, ByteArray.toList_eq, hSl]; exact hd
          rw [seg_word x _ _ (by unfold dots; simp [hd, hdd])] at hat
          have HAT := Lib.hid hat
          have HN := Lib.hid hN
          have HV : Hid (strsV (O ++ [x]) = strsV O ++ [.string S]) := Lib.hid (by rw [← hS]; simp [strsV])
          clear hat hlast hN hS hSl hdd hd
          obtain ⟨A, cp, rfl, _⟩ := own_slice HO.out
          go_wp2_with (at_builtin; refine wpList_app str_ty rfl _ _ rfl w2.heap.size _ _ _ rfl HO.out 1 1 [.string S] rfl (by rfl) (one1 _ rfl) (by omega) (by simp only [maxLen]; omega) hws ?_; intro v' w4 hown hgr)
          go_roundw
          case rel => exact ⟨k + 1, O ++ [x], by omega, by go_num, by rw [List.length_append, HN.out]; simp; omega, HAT.out, by rw [List.length_append, HN.out, HV.out]; exact hown, HB.out.grown hgr hws fun z hz => (HO.out.lt z hz).1⟩
          case measure => simp [intOf]; omega
    · obtain rfl : k = m := by omega
      rw [List.drop_eq_nil_of_le (by rw [HM.out]; exact Nat.le_refl _)] at hat
      have hOX : O = X := by rw [← hat]; rfl
      subst hOX
      obtain ⟨A, cp, rfl, hin⟩ := own_slice HO.out
      have hON : 0 < O.length := List.length_pos_iff.2 HNE.out
      obtain ⟨bk, o, rfl, hbk, hc⟩ := hin.2.2.2 hON
      obtain ⟨J, hJ⟩ : ∃ J : ByteArray, (⟨(Lib.join O [47]).toArray⟩ : ByteArray) = J := ⟨_, rfl⟩
      have hmap : (O.map fun x => (⟨x.toArray⟩ : ByteArray)).map (·.data.toList) = O := by rw [List.map_map]; exact List.map_id'' (fun x => rfl) O
      have hfj := flat_join O HNE.out
      have hJs : J.size + 1 ≤ 100000000 := by
        rw [← hJ, size_mk]
        rw [hfj, List.length_cons] at hsl
        show (([47] : List UInt8).intercalate O).length + 1 ≤ _
        omega
      have JN := Tryd.strings_Join bk o cp (O.map fun x => (⟨x.toArray⟩ : ByteArray)) ⟨#[47]⟩ w0 (by
        intro j x hx
        rw [List.getElem?_map, Option.map_eq_some_iff] at hx
        obtain ⟨y, hy, rfl⟩ := hx
        exact hc j _ (by rw [strsV_get, hy]; rfl)) hbk (by rw [List.length_map]; omega) (by rw [List.length_map]; exact hin.2.1) (by
        rw [hmap, show (⟨#[47]⟩ : ByteArray).data.toList = [47] from rfl]
        rw [← hJ, size_mk] at hJs
        omega)
      rw [hmap, show (⟨#[47]⟩ : ByteArray).data.toList = [47] from rfl, hJ, List.length_map] at JN
      replace JN := Lib.hid JN
      have HF : Hid (flat O = 47 :: J.data.toList) := Lib.hid (by rw [hfj, ← hJ]; rfl)
      clear hJ hmap hfj hrow hbel hat hN hin hc hlt
      go_wp2_with (go_at_call 118; refine JN.out.mono ?_; rintro e w4 ⟨rfl, hb4⟩)
      go_ret
      exact ⟨ret_str (bytes_eq (by rw [append_data, HF.out]; rfl)), B2.out.trans ((HB.out.trans (hb4.mono hws)).mono B2.out.size)⟩
end Go.Proofs.YtaddefjkjlkjnaaDoor
