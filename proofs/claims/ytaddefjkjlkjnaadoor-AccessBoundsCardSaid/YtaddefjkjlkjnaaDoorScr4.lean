/- Walk of script.Unquote: the octets that a quoted text begins with. Condition: the text takes at most 10^9 octets. -/
import Derived.Test.YtaddefjkjlkjnaaDoorScr3
import Derived.Test.YtaddefjkjlkjnaaDoorOct11
namespace Go.Proofs.YtaddefjkjlkjnaaDoor
open Go.RowKit IH
set_option maxRecDepth 100000

theorem octR_some {l : List UInt8} {d : UInt8} (h : octOf l = some d) : octR l = (d, (code d).length) := by unfold octR; rw [h]
theorem octR_no {l : List UInt8} (h : octOf l = none) : octR l = (0, 0) := by unfold octR; rw [h]

set_option maxHeartbeats 8000000 in
theorem Unquote27_any (s : ByteArray) (hs : s.size ≤ 1000000000) (w : World) :
    Calls Tryd.prog 127 #[.string s] w fun e w' => ∃ v, e = .returned (.tuple #[v, .int .i64 (unquote27 s.data.toList).2.1, .int .i64 (unquote27 s.data.toList).2.2]) ∧ w'.ownsRow w.heap.size 5 1 v (unquote27 s.data.toList).1.length (bytesV (unquote27 s.data.toList).1) ∧ Below w.heap.size w w' := by
  have HP := Lib.hid (HasPrefix_any s ⟨#[34]⟩)
  have hpre : Lib.hasPrefix s.data.toList [34] = true ∧ 1 ≤ s.size ∧ unquote27 s.data.toList = unq27 ((s.data.toList.drop 1).length + 1) [] 1 (s.data.toList.drop 1) ∨ Lib.hasPrefix s.data.toList [34] = false ∧ unquote27 s.data.toList = ([], 0, 10) := by
    have hl := data_len s
    cases h : s.data.toList with
    | nil => right; exact ⟨rfl, rfl⟩
    | cons c r =>
      rw [h] at hl
      by_cases hc : c = 34
      · left
        subst hc
        exact ⟨rfl, by simp at hl; omega, rfl⟩
      · right
        have hb : ((34 : UInt8) == c) = false := by rw [beq_eq_false_iff_ne]; exact fun hh => hc hh.symm
        exact ⟨by show (([34] : List UInt8).isPrefixOf (c :: r)) = false; rw [List.isPrefixOf, hb]; rfl, by unfold unquote27; simp [hc]⟩
  have e : (⟨#[34]⟩ : ByteArray).data.toList = [34] := rfl
  rw [e] at HP
  clear e
  rcases hpre with ⟨h1, hsz, h2⟩ | ⟨h1, h2⟩
  · rw [h1] at HP
    obtain ⟨U, hU⟩ : ∃ U, unq27 ((s.data.toList.drop 1).length + 1) [] 1 (s.data.toList.drop 1) = U := ⟨_, rfl⟩
    rw [h2, hU]
    have HU := Lib.hid hU
    clear h1 h2 hU
    go_enter Tryd.func127, Tryd.ntmps127
    go_wp2_with (go_at_call 98; refine (HP.out _).mono ?_; rintro e w' ⟨rfl, rfl⟩)
    go_loopw [5, 6] (fun v i wr => ∃ (k : Nat) (acc : List UInt8), i = .int .i64 k ∧ k ≤ s.size ∧ acc.length ≤ k ∧ U = unq27 ((s.data.toList.drop k).length + 1) acc k (s.data.toList.drop k) ∧ wr.ownsRow w.heap.size 5 1 v acc.length (bytesV acc) ∧ Below w.heap.size w wr) (fun _ i _ => s.size - (intOf i).toNat)
    case atStart => exact ⟨1, [], rfl, hsz, by simp, HU.out.symm, World.ownsRow_nil _ _ _ _, Below.refl _ _⟩
    case round =>
      clear HU
      obtain ⟨k, acc, rfl, hk, hacc, hat, hrow, hbel⟩ := hrel
      have hB : w.heap.size ≤ wr.heap.size := hbel.size
      have Hrow := Lib.hid hrow; clear hrow
      by_cases hlt : k < s.size
      · obtain ⟨c, hc⟩ : ∃ c, s[k] = c := ⟨_, rfl⟩
        have hdr := data_drop s k hlt
        rw [hc] at hdr
        have hstep := unq27_step acc k c (s.data.toList.drop (k + 1))
        have hU2 : U = unq27 ((s.data.toList.drop (k + 1)).length + 2) acc k (c :: s.data.toList.drop (k + 1)) := by rw [hat, hdr]; rfl
        rw [hstep] at hU2
        clear hat hstep
        by_cases h34 : c = 34
        · rw [if_pos h34] at hU2
          subst h34
          have HU2 := Lib.hid hU2; clear hU2 hdr
          go_wp2
          go_ret3
          exact ⟨_, by rw [HU2.out]; rfl, by rw [HU2.out]; exact Hrow.out, hbel⟩
        · rw [if_neg h34, ← hdr] at hU2
          have b34 : ((c.toNat : Int) == 34) = false := byte_not c 34 (by decide) h34
          have hx : (s.extract k s.size).data.toList = s.data.toList.drop k := drop_data s k
          have hxs : 0 < (s.extract k s.size).size := by simp; omega
          have HO := Lib.hid (octetOf_any (s.extract k s.size) hxs (by simp; omega))
          rw [hx] at HO
          clear hx hxs hdr h34
          cases ho : octOf (s.data.toList.drop k) with
          | none =>
            rw [ho] at hU2
            rw [octR_no ho] at HO
            have HU2 := Lib.hid hU2; clear hU2 ho
            go_wp2_with (go_at_call 159; refine (HO.out _).mono ?_; rintro e w1 ⟨rfl, hb1⟩)
            go_ret3
            exact ⟨_, by rw [HU2.out]; rfl, by rw [HU2.out]; exact World.ownsRow_nil _ _ _ _, hbel.trans (hb1.mono hB)⟩
          | some d =>
            rw [ho] at hU2
            rw [octR_some ho] at HO
            simp only at hU2 HO
            have hcl := code_length d
            have hpl := (octOf_some.1 ho).length_le
            rw [List.length_drop, data_len] at hpl
            rw [List.drop_drop] at hU2
            have HU2 := Lib.hid hU2; clear hU2 ho
            have hnz : (((code d).length : Int) == 0) = false := by rw [beq_eq_false_iff_ne]; omega
            generalize (code d).length = cl at *
            go_wp2_with (first
              | (go_at_call 159; refine (HO.out _).mono ?_; rintro e w1 ⟨rfl, hb1⟩; have hrow1 := own_below Hrow.out hb1; have Hrow1 := Lib.hid hrow1; clear hrow1; have hb2 := hbel.trans (hb1.mono hB); have hB1 := hb2.size)
              | (at_builtin; refine wpList_app u8_ty rfl _ _ rfl w.heap.size _ acc.length _ rfl Hrow1.out 1 1 [.int .u8 d.toNat] rfl (by rfl) (one1 _ rfl) (by omega) (by simp only [maxLen]; omega) hB1 ?_; intro v' w3 hown' hgr))
            go_roundw
            case rel => exact ⟨k + cl, acc ++ [d], by go_num, by omega, by simp; omega, HU2.out, by rw [bytesV_append, List.length_append]; exact hown', hb2.grown hgr hB1 (fun g hg => (Hrow1.out.lt g hg).1)⟩
            case measure => simp [intOf]; omega
      · obtain rfl : k = s.size := by omega
        have hd0 : s.data.toList.drop s.size = [] := List.drop_eq_nil_of_le (by rw [data_len]; omega)
        rw [hd0] at hat
        have hU2 : U = ([], 0, 10) := by rw [hat]; rfl
        have HU2 := Lib.hid hU2; clear hU2 hat hd0
        go_wp2
        go_ret3
        exact ⟨_, by rw [HU2.out]; rfl, by rw [HU2.out]; exact World.ownsRow_nil _ _ _ _, hbel⟩
  · rw [h1] at HP
    rw [h2]
    clear h1 h2
    go_enter Tryd.func127, Tryd.ntmps127
    go_wp2_with (go_at_call 98; refine (HP.out _).mono ?_; rintro e w' ⟨rfl, rfl⟩)
    go_ret3
    exact ⟨_, rfl, World.ownsRow_nil _ _ _ _, Below.refl _ _⟩
end Go.Proofs.YtaddefjkjlkjnaaDoor
