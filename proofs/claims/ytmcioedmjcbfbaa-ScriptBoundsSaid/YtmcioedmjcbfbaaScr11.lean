/- Walks of layer 27: a line's words, by the document. Condition: texts within 10^9 octets. -/
import Derived.Test.YtmcioedmjcbfbaaOct5
import Derived.Test.YtmcioedmjcbfbaaPm
namespace Go.Proofs.Ytmcioedmjcbfbaa
open Go.RowKit IH
set_option maxRecDepth 100000
theorem cut1 (s : ByteArray) (k : Nat) (_h : k < s.size) (x : UInt8) (hx : s.data.toList[k]? = some x) : s.extract k (k + 1) = ⟨#[x]⟩ := by
  refine bytes_inj ?_
  rw [Lib.extract_data]
  obtain ⟨hl, rfl⟩ := List.getElem?_eq_some_iff.1 hx
  have hd : s.data.toList.drop k = s.data.toList[k] :: s.data.toList.drop (k + 1) := List.drop_eq_getElem_cons hl
  first | (rw [hd]; simp) | (rw [List.drop_take, hd, show k + 1 - k = 1 by omega]; simp)
set_option maxHeartbeats 4000000 in
theorem refWords_any (s : ByteArray) (hs : s.size ≤ 1000000000) (w : World) :
    Calls Try.prog 60 #[.string s] w fun e w' => ∃ v, e = .returned v ∧ w'.ownsRow w.heap.size 9 1 v (wordsL s.data.toList).length (strsV (wordsL s.data.toList)) ∧ Below w.heap.size w w' := by
  obtain ⟨l, hl⟩ : ∃ l, s.data.toList = l := ⟨_, rfl⟩
  have hll : l.length = s.size := by rw [← hl, data_len]
  rw [hl]
  have Hl := Lib.hid hl
  clear hl
  go_enter Try.func60, Try.ntmps60
  go_wp2
  go_loopw [3, 4, 5, 6] (fun v t b i wr => ∃ (k : Nat) (O : List (List UInt8)) (W : ByteArray) (ins : Bool), k ≤ s.size ∧ i = .int .i64 k ∧ t = .string W ∧ b = .bool ins ∧ O.length ≤ k ∧ W.size ≤ k ∧ O ++ wds W.data.toList ins (l.drop k) = wordsL l ∧ wr.ownsRow w.heap.size 9 1 v O.length (strsV O) ∧ Below w.heap.size w wr) (fun _ _ _ i _ => s.size - (intOf i).toNat)
  case atStart => exact ⟨0, [], ⟨#[]⟩, false, by omega, rfl, rfl, rfl, Nat.le_refl 0, Nat.le_refl 0, rfl, World.ownsRow_nil _ _ _ _, Below.refl _ _⟩
  case round =>
    obtain ⟨k, O, W, ins, hk, rfl, rfl, rfl, hOk, hWk, hat, hrow, hbel⟩ := hrel
    have Hrow := Lib.hid hrow
    have hbs := hbel.size
    clear hrow
    by_cases hlt : k < s.size
    · obtain ⟨x, hx⟩ : ∃ x, l[k]? = some x := ⟨_, List.getElem?_eq_getElem (by omega)⟩
      have hxs : s.data.toList[k]? = some x := by rw [Hl.out]; exact hx
      have hatk : s[k] = x := Option.some.inj ((get_data s k hlt).symm.trans hxs)
      have hcut := cut1 s k hlt x hxs
      have hdr : l.drop k = x :: l.drop (k + 1) := by
        obtain ⟨hl, rfl⟩ := List.getElem?_eq_some_iff.1 hx
        exact List.drop_eq_getElem_cons hl
      have hsn := hat
      rw [hdr] at hsn
      have hz1 : (⟨#[x]⟩ : ByteArray).size = 1 := rfl
      clear hxs hx hat hdr
      by_cases h32 : x = 32
      · subst h32
        cases ins
        · rw [wds_blank, List.append_cons] at hsn
          have Hsn := Lib.hid hsn
          clear hsn hcut hz1
          have HW : Hid (strsV [W.data.toList] = [.string W]) := Lib.hid (by unfold strsV; simp)
          go_wp2_with (at_builtin; refine wpList_app str_ty rfl _ _ rfl w.heap.size _ _ _ rfl Hrow.out 1 1 [.string W] rfl (by rfl) (by rw [← HW.out]; exact strsV_one _) (by omega) (by simp only [maxLen]; omega) hbs ?_; intro v' w4 hown' hgr)
          go_roundw
          case rel => exact ⟨k + 1, O ++ [W.data.toList], ⟨#[]⟩, false, by omega, by go_num, rfl, rfl, by simp; omega, Nat.zero_le _, Hsn.out, by rw [strsV_append, List.length_append, HW.out]; exact hown', hbel.grown hgr hbs (fun g hg => (Hrow.out.lt g hg).1)⟩
          case measure => simp [intOf]; omega
        · rw [wds_other _ _ _ _ (by simp) (by decide) (by decide)] at hsn
          have hd2 : (W ++ ⟨#[32]⟩ : ByteArray).data.toList = W.data.toList ++ [32] := by rw [append_data]
          rw [← hd2] at hsn
          have hsz : (W ++ ⟨#[32]⟩ : ByteArray).size = W.size + 1 := by simp [hz1]
          have Hsn := Lib.hid hsn
          have Hsz := Lib.hid hsz
          clear hsn hsz hd2
          generalize (⟨#[32]⟩ : ByteArray) = X1 at *
          go_wp2
          go_roundw
          case rel => exact ⟨k + 1, O, W ++ X1, true, by omega, by go_num, rfl, by first | rfl | simp, by omega, by rw [Hsz.out]; omega, Hsn.out, Hrow.out, hbel⟩
          case measure => simp [intOf]; omega
      · by_cases h34 : x = 34
        · subst h34
          rw [wds_mark] at hsn
          have hd2 : (W ++ ⟨#[34]⟩ : ByteArray).data.toList = W.data.toList ++ [34] := by rw [append_data]
          rw [← hd2] at hsn
          have hsz : (W ++ ⟨#[34]⟩ : ByteArray).size = W.size + 1 := by simp [hz1]
          have Hsn := Lib.hid hsn
          have Hsz := Lib.hid hsz
          clear hsn hsz hd2
          generalize (⟨#[34]⟩ : ByteArray) = X1 at *
          go_wp2
          go_roundw
          case rel => exact ⟨k + 1, O, W ++ X1, !ins, by omega, by go_num, rfl, by first | rfl | simp, by omega, by rw [Hsz.out]; omega, Hsn.out, Hrow.out, hbel⟩
          case measure => simp [intOf]; omega
        · by_cases h92 : x = 92
          · subst h92
            cases ins
            · rw [wds_other _ _ _ _ (by simp) (by decide) (by simp)] at hsn
              have hd2 : (W ++ ⟨#[92]⟩ : ByteArray).data.toList = W.data.toList ++ [92] := by rw [append_data]
              rw [← hd2] at hsn
              have hsz : (W ++ ⟨#[92]⟩ : ByteArray).size = W.size + 1 := by simp [hz1]
              have Hsn := Lib.hid hsn
              have Hsz := Lib.hid hsz
              clear hsn hsz hd2
              generalize (⟨#[92]⟩ : ByteArray) = X1 at *
              go_wp2
              go_roundw
              case rel => exact ⟨k + 1, O, W ++ X1, false, by omega, by go_num, rfl, by first | rfl | simp, by omega, by rw [Hsz.out]; omega, Hsn.out, Hrow.out, hbel⟩
              case measure => simp [intOf]; omega
            · by_cases hk1 : k + 1 < s.size
              · obtain ⟨y, hy⟩ : ∃ y, l[k + 1]? = some y := ⟨_, List.getElem?_eq_getElem (by omega)⟩
                have hcut2 := cut1 s (k + 1) hk1 y (by rw [Hl.out]; exact hy)
                have hdr : l.drop (k + 1) = y :: l.drop (k + 1 + 1) := by
                  obtain ⟨hl, rfl⟩ := List.getElem?_eq_some_iff.1 hy
                  exact List.drop_eq_getElem_cons hl
                rw [hdr, wds_esc] at hsn
                have hz2 : (⟨#[y]⟩ : ByteArray).size = 1 := rfl
                have hd2 : (W ++ ⟨#[92]⟩ ++ ⟨#[y]⟩ : ByteArray).data.toList = W.data.toList ++ [92, y] := by rw [append_data, append_data]; simp
                rw [← hd2] at hsn
                have hsz : (W ++ ⟨#[92]⟩ ++ ⟨#[y]⟩ : ByteArray).size = W.size + 2 := by simp [hz1, hz2]
                have Hsn := Lib.hid hsn
                have Hsz := Lib.hid hsz
                have hkI : (k : Int) + 1 < (s.size : Int) := by omega
                clear hsn hsz hd2 hdr hy
                generalize (⟨#[92]⟩ : ByteArray) = X1 at *
                generalize (⟨#[y]⟩ : ByteArray) = X2 at *
                go_wp2
                go_roundw
                case rel => exact ⟨k + 2, O, W ++ X1 ++ X2, true, by omega, by go_num, rfl, rfl, by omega, by rw [Hsz.out]; omega, Hsn.out, Hrow.out, hbel⟩
                case measure => simp [intOf]; omega
              · have hke : k + 1 = s.size := by omega
                have hnil : l.drop (k + 1) = [] := List.drop_eq_nil_of_le (by omega)
                replace hsn : O ++ wds (W.data.toList ++ [92]) true (l.drop (k + 1)) = wordsL l := by
                  rw [hnil, wds_last] at hsn
                  rw [hnil, ← hsn, wds]
                have hkI : ¬ ((k : Int) + 1 < (s.size : Int)) := by omega
                have hcut3 := hcut
                rw [hke] at hcut3
                clear hnil
                have hd2 : (W ++ ⟨#[92]⟩ : ByteArray).data.toList = W.data.toList ++ [92] := by rw [append_data]
                rw [← hd2] at hsn
                have hsz : (W ++ ⟨#[92]⟩ : ByteArray).size = W.size + 1 := by simp [hz1]
                have Hsn := Lib.hid hsn
                have Hsz := Lib.hid hsz
                clear hsn hsz hd2
                generalize (⟨#[92]⟩ : ByteArray) = X1 at *
                go_wp2
                go_roundw
                case rel => exact ⟨k + 1, O, W ++ X1, true, by omega, by go_num, rfl, by first | rfl | simp, by omega, by rw [Hsz.out]; omega, Hsn.out, Hrow.out, hbel⟩
                case measure => simp [intOf]; omega
          · rw [wds_other _ _ _ _ (fun h => h32 h.1) h34 (fun h => h92 h.1)] at hsn
            have e32 : ((x.toNat : Int) == 32) = false := by rw [beq_eq_false_iff_ne]; intro h; exact h32 (UInt8.toNat_inj.1 (by simpa using (by omega : x.toNat = 32)))
            have e34 : ((x.toNat : Int) == 34) = false := by rw [beq_eq_false_iff_ne]; intro h; exact h34 (UInt8.toNat_inj.1 (by simpa using (by omega : x.toNat = 34)))
            have e92 : ((x.toNat : Int) == 92) = false := by rw [beq_eq_false_iff_ne]; intro h; exact h92 (UInt8.toNat_inj.1 (by simpa using (by omega : x.toNat = 92)))
            have hd2 : (W ++ ⟨#[x]⟩ : ByteArray).data.toList = W.data.toList ++ [x] := by rw [append_data]
            rw [← hd2] at hsn
            have hsz : (W ++ ⟨#[x]⟩ : ByteArray).size = W.size + 1 := by simp [hz1]
            have Hsn := Lib.hid hsn
            have Hsz := Lib.hid hsz
            clear hsn hsz hd2
            generalize (⟨#[x]⟩ : ByteArray) = X1 at *
            go_wp2
            go_roundw
            case rel => exact ⟨k + 1, O, W ++ X1, ins, by omega, by go_num, rfl, by first | rfl | simp, by omega, by rw [Hsz.out]; omega, Hsn.out, Hrow.out, hbel⟩
            case measure => simp [intOf]; omega
    · obtain rfl : k = s.size := by omega
      rw [List.drop_eq_nil_of_le (by omega), show wds W.data.toList ins [] = [W.data.toList] by rw [wds]] at hat
      have Hat := Lib.hid hat
      clear hat
      have HW : Hid (strsV [W.data.toList] = [.string W]) := Lib.hid (by unfold strsV; simp)
      go_wp2_with (at_builtin; refine wpList_app str_ty rfl _ _ rfl w.heap.size _ _ _ rfl Hrow.out 1 1 [.string W] rfl (by rfl) (by rw [← HW.out]; exact strsV_one _) (by omega) (by simp only [maxLen]; omega) hbs ?_; intro v' w4 hown' hgr)
      go_ret
      refine ⟨_, rfl, ?_, hbel.grown hgr hbs (fun g hg => (Hrow.out.lt g hg).1)⟩
      rw [← Hat.out, strsV_append, List.length_append, HW.out]
      exact hown'
end Go.Proofs.Ytmcioedmjcbfbaa
