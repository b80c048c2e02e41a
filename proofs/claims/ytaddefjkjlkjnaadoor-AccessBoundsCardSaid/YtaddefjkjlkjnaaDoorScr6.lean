/- Walk of icehouseref27.Unquote: the document's reading of a quoted text. Condition: the text takes at most 10^9 octets. -/
import Derived.Test.YtaddefjkjlkjnaaDoorScr4
import Derived.Test.YtaddefjkjlkjnaaDoorScr5
namespace Go.Proofs.YtaddefjkjlkjnaaDoor
open Go.RowKit IH
set_option maxRecDepth 100000

theorem refCode_at (c : UInt8) (n : Int) (hn : n = c.toNat) (w : World) : Calls Tryd.prog 110 #[.int .u8 n] w fun e w' => e = .returned (.string ⟨(code c).toArray⟩) ∧ Below w.heap.size w w' := by subst hn; exact refCode_any c w
theorem byte_bne (c : UInt8) (n : Nat) (m : Int) (hm : m = (n : Int)) (h : n < 256) (hc : c ≠ UInt8.ofNat n) : ((c.toNat : Int) != m) = true := by subst hm; rw [bne, byte_not c n h hc]; rfl
/-- No octet below m has a code with which the text begins. -/
def noneBelow (m : Nat) (l : List UInt8) : Prop := ∀ i, i < m → ¬ code (UInt8.ofNat i) <+: l
theorem noneBelow_all {l : List UInt8} (h : noneBelow 256 l) : octOf l = none := octOf_none.2 fun c hc => h c.toNat c.toNat_lt (by simpa using hc)
theorem noneBelow_next {m : Nat} {l : List UInt8} (h : noneBelow m l) (hm : ¬ code (UInt8.ofNat m) <+: l) : noneBelow (m + 1) l := fun i hi => by
  rcases Nat.lt_or_ge i m with h1 | h1
  · exact h i h1
  · obtain rfl : i = m := by omega
    exact hm
theorem ofNat_val (m : Nat) (h : m < 256) : (m : Int) = (UInt8.ofNat m).toNat := by rw [UInt8.toNat_ofNat']; omega
theorem slice_is (s C : ByteArray) (k : Nat) : ((s.extract k (k + C.size)).toList == C.toList) = decide (C.data.toList <+: s.data.toList.drop k) := by
  have hx : (s.extract k (k + C.size)).data.toList = (s.data.toList.drop k).take C.size := by rw [Lib.extract_data, Nat.add_sub_cancel_left]
  rw [ByteArray.toList_eq, ByteArray.toList_eq, hx, Bool.eq_iff_iff, beq_iff_eq, decide_eq_true_eq, List.prefix_iff_eq_take, data_len]
  exact eq_comm

set_option maxHeartbeats 8000000 in
theorem refUnquote27_any (s : ByteArray) (hs : s.size ≤ 1000000000) (w : World) :
    Calls Tryd.prog 130 #[.string s] w fun e w' => ∃ v, e = .returned (.tuple #[v, .int .i64 (unquote27 s.data.toList).2.1, .int .i64 (unquote27 s.data.toList).2.2]) ∧ w'.ownsRow w.heap.size 5 1 v (unquote27 s.data.toList).1.length (bytesV (unquote27 s.data.toList).1) ∧ Below w.heap.size w w' := by
  by_cases h0 : s.size = 0
  · have hu : unquote27 s.data.toList = ([], 0, 10) := by
      have : s.data.toList = [] := List.eq_nil_of_length_eq_zero (by rw [data_len]; exact h0)
      rw [this]; rfl
    rw [hu]
    have e0 : ((s.size : Int) == 0) = true := by rw [beq_iff_eq]; omega
    clear h0 hu
    go_enter Tryd.func130, Tryd.ntmps130
    go_wp2
    go_ret3
    exact ⟨_, rfl, World.ownsRow_nil _ _ _ _, Below.refl _ _⟩
  · have e0 : ((s.size : Int) == 0) = false := by rw [beq_eq_false_iff_ne]; omega
    have hsz : 0 < s.size := by omega
    obtain ⟨a, ha⟩ : ∃ a, s[0] = a := ⟨_, rfl⟩
    have hl := data_drop s 0 hsz
    rw [List.drop_zero, ha, Nat.zero_add] at hl
    by_cases h34 : a = 34
    · obtain ⟨U, hU⟩ : ∃ U, unquote27 s.data.toList = U := ⟨_, rfl⟩
      have hU2 : unq27 ((s.data.toList.drop 1).length + 1) [] 1 (s.data.toList.drop 1) = U := by
        rw [← hU]
        conv => rhs; rw [hl]
        unfold unquote27
        simp only
        rw [if_pos h34]
      rw [hU]
      have HU := Lib.hid hU2
      subst h34
      clear hU hU2 hl h0
      go_enter Tryd.func130, Tryd.ntmps130
      go_wp2
      go_loopw [5, 6] (fun v i wr => ∃ (k : Nat) (acc : List UInt8) (v0 : Value), v0 = v ∧ i = .int .i64 k ∧ k ≤ s.size ∧ acc.length ≤ k ∧ U = unq27 ((s.data.toList.drop k).length + 1) acc k (s.data.toList.drop k) ∧ wr.ownsRow w.heap.size 5 1 v acc.length (bytesV acc) ∧ Below w.heap.size w wr) (fun _ i _ => s.size - (intOf i).toNat)
      case atStart => exact ⟨1, [], _, rfl, rfl, hsz, by simp, HU.out.symm, World.ownsRow_nil _ _ _ _, Below.refl _ _⟩
      case round =>
        clear HU
        obtain ⟨k, acc, v0, rfl, rfl, hk, hacc, hat, hrow, hbel⟩ := hrel
        have hB : w.heap.size ≤ wr.heap.size := hbel.size
        have Hrow := Lib.hid hrow; clear hrow
        by_cases hlt : k < s.size
        · obtain ⟨c, hc⟩ : ∃ c, s[k] = c := ⟨_, rfl⟩
          have hdr := data_drop s k hlt
          rw [hc] at hdr
          have hstep := unq27_step acc k c (s.data.toList.drop (k + 1))
          have hU2 : U = unq27 ((s.data.toList.drop (k + 1)).length + 2) acc k (c :: s.data.toList.drop (k + 1)) := by rw [hat, hdr]; rfl
          rw [hstep] at hU2
          clear hat hstep
          by_cases hc34 : c = 34
          · rw [if_pos hc34] at hU2
            subst hc34
            have HU2 := Lib.hid hU2; clear hU2 hdr
            go_wp2
            go_ret3
            exact ⟨_, by rw [HU2.out]; rfl, by rw [HU2.out]; exact Hrow.out, hbel⟩
          · rw [if_neg hc34, ← hdr] at hU2
            have b34 : ((c.toNat : Int) != 34) = true := byte_bne c 34 34 rfl (by decide) hc34
            clear hdr hc34
            have HU2 := Lib.hid hU2; clear hU2
            obtain ⟨wo, rfl⟩ : ∃ wo : World, wo = wr := ⟨_, rfl⟩
            go_wp2
            go_loopw [5, 7, 8] (fun v5 v7 v8 wr => ∃ m : Nat, v5 = v0 ∧ v7 = .int .i64 0 ∧ v8 = .int .i64 m ∧ m ≤ 256 ∧ noneBelow m (s.data.toList.drop k) ∧ wr.ownsRow w.heap.size 5 1 v0 acc.length (bytesV acc) ∧ Below w.heap.size w wr) (fun _ _ v8 _ => 256 - (intOf v8).toNat)
            case atStart => exact ⟨0, rfl, rfl, rfl, by omega, fun i hi => by omega, Hrow.out, hbel⟩
            case round =>
              clear Hrow hbel
              obtain ⟨m, rfl, rfl, rfl, hm, hno, hrow, hbel⟩ := hrel
              have Hrow := Lib.hid hrow; clear hrow
              have hB2 := hbel.size
              by_cases hlt2 : m < 256
              · obtain ⟨C, hC⟩ : ∃ C : ByteArray, C.data.toList = code (UInt8.ofNat m) := ⟨⟨(code (UInt8.ofNat m)).toArray⟩, rfl⟩
                have hcl := code_length (UInt8.ofNat m)
                have hCs : C.size = (code (UInt8.ofNat m)).length := by rw [← data_len, hC]
                have hsl := slice_is s C k
                rw [hC] at hsl
                have hv := ofNat_val m hlt2
                have HC := Lib.hid hC; clear hC
                by_cases hpre : code (UInt8.ofNat m) <+: s.data.toList.drop k
                · rw [decide_eq_true hpre] at hsl
                  have hle := hpre.length_le
                  rw [List.length_drop, data_len, ← hCs] at hle
                  have hn2 := HU2.out
                  rw [octOf_some.2 hpre] at hn2
                  simp only at hn2
                  rw [List.drop_drop, ← hCs] at hn2
                  have Hn2 := Lib.hid hn2
                  have hfit : C.size ≤ s.size - k := by omega
                  have hnz : ((C.size : Int) == 0) = false := by rw [beq_eq_false_iff_ne]; omega
                  have HV := Lib.hid hv
                  have hc1 : 1 ≤ C.size := by omega
                  have hc4 : C.size ≤ 4 := by omega
                  clear hn2 hpre hcl hCs hno hv
                  go_wp2_with (first
                    | (go_at_call 110; refine (refCode_at (UInt8.ofNat m) _ HV.out _).mono ?_; rintro e w2 ⟨rfl, hb2⟩; rw [← bytes_eq HC.out]; have hrow2 := own_below Hrow.out hb2; have Hrow2 := Lib.hid hrow2; clear hrow2; have hb3 := below_step hbel hb2; clear hb2; have hB3 := hb3.size)
                    | (at_builtin; refine wpList_app u8_ty rfl _ _ rfl w.heap.size _ acc.length _ rfl Hrow2.out 1 1 [.int .u8 m] rfl (by rfl) (one1 _ rfl) (by omega) (by simp only [maxLen]; omega) hB3 ?_; intro v' w3 hown' hgr))
                  have he : bytesV [UInt8.ofNat m] = [.int .u8 m] := by
                    show [Value.int .u8 ((UInt8.ofNat m).toNat : Int)] = _
                    rw [← HV.out]
                  have He := Lib.hid he; clear he
                  go_roundw
                  case rel => exact ⟨k + C.size, acc ++ [UInt8.ofNat m], _, rfl, by go_num, by omega, by simp; omega, Hn2.out, by rw [bytesV_append, List.length_append, He.out]; exact hown', hb3.grown hgr hB3 (fun g hg => (Hrow2.out.lt g hg).1)⟩
                  case measure => simp [intOf]; omega
                · rw [decide_eq_false hpre] at hsl
                  have hno2 := noneBelow_next hno hpre
                  have Hno2 := Lib.hid hno2
                  have HV := Lib.hid hv
                  clear hno hpre hcl hCs hno2 hv
                  go_wp2_with (first
                    | (go_at_call 110; refine (refCode_at (UInt8.ofNat m) _ HV.out _).mono ?_; rintro e w2 ⟨rfl, hb2⟩; rw [← bytes_eq HC.out]; have hrow2 := own_below Hrow.out hb2; have Hrow2 := Lib.hid hrow2; clear hrow2; have hb3 := below_step hbel hb2; clear hb2))
                  all_goals
                    go_roundw
                    case rel => exact ⟨m + 1, rfl, rfl, by go_num, by omega, Hno2.out, Hrow2.out, hb3⟩
                    case measure => simp [intOf]; omega
              · obtain rfl : m = 256 := by omega
                have hn2 := HU2.out
                rw [noneBelow_all hno] at hn2
                simp only at hn2
                have Hn2 := Lib.hid hn2
                clear hn2 hno
                go_wp2
                go_ret3
                exact ⟨_, by rw [Hn2.out]; rfl, by rw [Hn2.out]; exact World.ownsRow_nil _ _ _ _, hbel⟩
        · obtain rfl : k = s.size := by omega
          have hd0 : s.data.toList.drop s.size = [] := List.drop_eq_nil_of_le (by rw [data_len]; omega)
          rw [hd0] at hat
          have hU2 : U = ([], 0, 10) := by rw [hat]; rfl
          have HU2 := Lib.hid hU2; clear hU2 hat hd0
          go_wp2
          go_ret3
          exact ⟨_, by rw [HU2.out]; rfl, by rw [HU2.out]; exact World.ownsRow_nil _ _ _ _, hbel⟩
    · have hu : unquote27 s.data.toList = ([], 0, 10) := by
        rw [hl]
        unfold unquote27
        simp only
        rw [if_neg h34]
      rw [hu]
      have b34 : ((a.toNat : Int) != 34) = true := byte_bne a 34 34 rfl (by decide) h34
      clear hu hl h34 h0
      go_enter Tryd.func130, Tryd.ntmps130
      go_wp2
      go_ret3
      exact ⟨_, rfl, World.ownsRow_nil _ _ _ _, Below.refl _ _⟩
end Go.Proofs.YtaddefjkjlkjnaaDoor
