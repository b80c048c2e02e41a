/- Walks of layer 5: hosts and ports. No condition but that lengths are within bounds. -/
import Derived.Test.YtaddefjkjlkjnaaDoorTar1
import Derived.Test.YtaddefjkjlkjnaaDoorOct4
import Derived.Lib.LastIndexByte
namespace Go.Proofs.YtaddefjkjlkjnaaDoor
open Go.RowKit IH
set_option maxRecDepth 100000
theorem at_bang {s : ByteArray} {j : Nat} {x : UInt8} (h : s.data.toList[j]? = some x) : s.data[j]! = x := by
  rw [Array.getElem?_toList] at h
  rw [getElem!_def, h]
theorem last_no {s : ByteArray} {c : UInt8} (h : ∀ x ∈ s.data.toList, x ≠ c) : Lib.lastIndexByte s c.toNat = -1 := by
  rcases Lib.lastIndexByte_spec s c.toNat with ⟨h1, _⟩ | ⟨i, hi, _, h2, _⟩
  · exact h1
  · exfalso
    have hg := get_data s i hi
    rw [at_bang hg] at h2
    obtain ⟨z, hz⟩ : ∃ z, s[i] = z := ⟨_, rfl⟩
    rw [hz] at hg h2
    clear hz
    exact h _ (List.mem_of_getElem? hg) (UInt8.toNat_inj.1 (by omega))
theorem last_mid {s : ByteArray} {c : UInt8} {h t : List UInt8} (e : s.data.toList = h ++ c :: t) (ht : ∀ x ∈ t, x ≠ c) : Lib.lastIndexByte s c.toNat = (h.length : Nat) := by
  have hl : h.length < s.size := by rw [← data_len, e]; simp
  have hc : s.data.toList[h.length]? = some c := by rw [e, List.getElem?_append_right (Nat.le_refl _)]; simp
  rcases Lib.lastIndexByte_spec s c.toNat with ⟨_, h1⟩ | ⟨i, hi, h0, h2, h3⟩
  · exact absurd (by rw [at_bang hc]) (h1 h.length hl)
  · rw [h0]
    have hg := get_data s i hi
    rw [at_bang hg] at h2
    obtain ⟨z, hz⟩ : ∃ z, s[i] = z := ⟨_, rfl⟩
    rw [hz] at hg h2
    clear hz
    rcases Nat.lt_trichotomy i h.length with h4 | h4 | h4
    · exact absurd (by rw [at_bang hc]) (h3 h.length h4 hl)
    · rw [h4]
    · exfalso
      rw [e, List.getElem?_append_right (by omega), show i - h.length = (i - h.length - 1) + 1 by omega, List.getElem?_cons_succ] at hg
      exact ht _ (List.mem_of_getElem? hg) (UInt8.toNat_inj.1 (by omega))
theorem last_lt {s : ByteArray} {c d : UInt8} {h t : List UInt8} (e : s.data.toList = h ++ d :: t) (hd : d ≠ c) (ht : ∀ x ∈ t, x ≠ c) : Lib.lastIndexByte s c.toNat < (h.length : Nat) := by
  rcases Lib.lastIndexByte_spec s c.toNat with ⟨h1, _⟩ | ⟨i, hi, h0, h2, _⟩
  · rw [h1]; omega
  · rw [h0]
    have hg := get_data s i hi
    rw [at_bang hg] at h2
    obtain ⟨z, hz⟩ : ∃ z, s[i] = z := ⟨_, rfl⟩
    rw [hz] at hg h2
    clear hz
    rcases Nat.lt_trichotomy i h.length with h4 | h4 | h4
    · omega
    · exfalso
      rw [e, h4, List.getElem?_append_right (Nat.le_refl _), Nat.sub_self, List.getElem?_cons_zero] at hg
      exact hd (by rw [Option.some.inj hg]; exact UInt8.toNat_inj.1 (by omega))
    · exfalso
      rw [e, List.getElem?_append_right (by omega), show i - h.length = (i - h.length - 1) + 1 by omega, List.getElem?_cons_succ] at hg
      exact ht _ (List.mem_of_getElem? hg) (UInt8.toNat_inj.1 (by omega))
set_option maxHeartbeats 2000000 in
theorem only_any (s : ByteArray) (hs : s.size ≤ 1000000000) (A : Option Addr) (n cp : Nat) (L : List (List UInt8)) (w : World) (hin : SliceIn w w.heap.size 1 A n cp (strsV L)) (hn : n ≤ 1000000) :
    Calls Tryd.prog 169 #[.string s, .slice A n cp] w fun e w' => e = .returned (.bool (!s.data.toList.isEmpty && s.data.toList.all (ofL L))) ∧ Below w.heap.size w w' := by
  have OF := Lib.hid (fun (c : UInt8) (W : World) (hb : Below w.heap.size w W) => of_any c A n cp L W ((hin.below hb).more hb.size) hn)
  clear hin
  go_enter Tryd.func169, Tryd.ntmps169
  go_wp2
  go_loopw [8] (fun i wr => ∃ k : Nat, k ≤ s.size ∧ i = .int .i64 k ∧ (s.data.toList.take k).all (ofL L) = true ∧ Below w.heap.size w wr) (fun i _ => s.size - (intOf i).toNat)
  case atStart => exact ⟨0, by omega, rfl, rfl, Below.refl _ _⟩
  case round =>
    obtain ⟨w0, rfl⟩ : ∃ w0 : World, w0 = wr := ⟨_, rfl⟩
    obtain ⟨k, hk, rfl, hall, hbel⟩ := hrel
    have HA := Lib.hid hall
    have HB := Lib.hid hbel
    clear hall hbel
    by_cases hlt : k < s.size
    · obtain ⟨c, hc⟩ : ∃ c, s[k] = c := ⟨_, rfl⟩
      have kI : (k : Int) < (s.size : Int) := by omega
      have OC := OF.out c w0 HB.out
      by_cases h : ofL L c = true
      · have HN : Hid ((s.data.toList.take (k + 1)).all (ofL L) = true) := Lib.hid (by rw [data_take_succ s k hlt, hc, List.all_append, HA.out]; simp [h])
        rw [h] at OC
        replace OC := Lib.hid OC
        clear h
        go_wp2_with (go_at_call 172; refine OC.out.mono ?_; rintro e w2 ⟨rfl, hb2⟩)
        go_roundw
        case rel => exact ⟨k + 1, by omega, by go_num, HN.out, below_step HB.out hb2⟩
        case measure => simp [intOf]; omega
      · have h' : ofL L c = false := by simpa using h
        have HN : Hid ((!s.data.toList.isEmpty && s.data.toList.all (ofL L)) = false) := Lib.hid (by
          have : s.data.toList.all (ofL L) = false := by rw [data_split s k hlt, hc]; simp [h']
          rw [this]; simp)
        rw [h'] at OC
        replace OC := Lib.hid OC
        clear h h'
        go_wp2_with (go_at_call 172; refine OC.out.mono ?_; rintro e w2 ⟨rfl, hb2⟩)
        go_ret
        exact ⟨ret_bool HN.out.symm, below_step HB.out hb2⟩
    · obtain rfl : k = s.size := by omega
      have hall := HA.out
      rw [List.take_of_length_le (by rw [data_len]; exact Nat.le_refl _)] at hall
      have HN : Hid ((!s.data.toList.isEmpty && s.data.toList.all (ofL L)) = (s.toList != [])) := Lib.hid (by
        rw [hall, ByteArray.toList_eq]; cases s.data.toList <;> rfl)
      clear hall
      go_wp2
      go_ret
      exact ⟨ret_bool (by rw [HN.out]; cases s.toList <;> rfl), HB.out⟩
end Go.Proofs.YtaddefjkjlkjnaaDoor
