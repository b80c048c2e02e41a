/- Walks of layer 5: octets of a target, by the code and by the document. No condition but that lengths are within bounds. -/
import Derived.Test.YtaddefjkjlkjnaaDoorOct1
import Derived.Test.YtaddefjkjlkjnaaDoorOct8
import Derived.Test.YtaddefjkjlkjnaaDoorOct10
import Derived.Test.YtaddefjkjlkjnaaDoorKt
import Derived.Test.YtaddefjkjlkjnaaDoorShelf
import Derived.Test.YtaddefjkjlkjnaaDoorTgt5
namespace Go.Proofs.YtaddefjkjlkjnaaDoor
open Go.RowKit IH
set_option maxRecDepth 100000
theorem tletter_any (c : UInt8) (w : World) :
    Calls Tryd.prog 189 #[.int .u8 c.toNat] w fun e w' => e = .returned (.bool (isLetter c)) ∧ w = w' := by
  have hc : (c.toNat : Int) ≤ 255 := by have := c.toNat_lt; omega
  go_enter Tryd.func189, Tryd.ntmps189
  go_wp2
  all_goals
    go_ret
    refine ⟨ret_bool ?_, rfl⟩
    rw [Bool.eq_iff_iff]; simp [isLetter]; omega
theorem great_any (c : UInt8) (w : World) :
    Calls Tryd.prog 173 #[.int .u8 c.toNat] w fun e w' => e = .returned (.int .u8 (greatC c).toNat) ∧ w = w' := by
  have hc : (c.toNat : Int) ≤ 255 := by have := c.toNat_lt; omega
  rw [great_nat c]
  by_cases h : (97 : Int) ≤ c.toNat
  · rw [if_pos h]
    have h1 : IntKind.u8.wrap ((c.toNat : Int) - 97) = (c.toNat : Int) - 97 := IntWalk.u8_in _ ⟨by omega, by omega⟩
    have h2 : IntKind.u8.wrap ((c.toNat : Int) - 97 + 65) = (c.toNat : Int) - 32 := by rw [show (c.toNat : Int) - 97 + 65 = (c.toNat : Int) - 32 by omega]; exact IntWalk.u8_in _ ⟨by omega, by omega⟩
    go_enter Tryd.func173, Tryd.ntmps173
    go_wp2
    go_ret
    exact ⟨rfl, rfl⟩
  · rw [if_neg h]
    go_enter Tryd.func173, Tryd.ntmps173
    go_wp2
    go_ret
    exact ⟨rfl, rfl⟩
theorem free5_nat (c : UInt8) : free5 c = (isLetter c || c.toNat == 45 || c.toNat == 46 || c.toNat == 95 || c.toNat == 126) := by
  have := all_bytes (fun c => free5 c == (isLetter c || c.toNat == 45 || c.toNat == 46 || c.toNat == 95 || c.toNat == 126)) (by decide +kernel) c
  exact eq_of_beq this
theorem tfree_any (c : UInt8) (w : World) :
    Calls Tryd.prog 103 #[.int .u8 c.toNat] w fun e w' => e = .returned (.bool (free5 c)) ∧ w = w' := by
  have hc : (c.toNat : Int) ≤ 255 := by have := c.toNat_lt; omega
  rw [free5_nat]
  go_enter Tryd.func103, Tryd.ntmps103
  go_wp2
  all_goals
    go_ret
    refine ⟨ret_bool ?_, rfl⟩
    rw [Bool.eq_iff_iff]; simp [isLetter]; omega
theorem ix_contains (l : List UInt8) (c : UInt8) : decide (0 ≤ Lib.indexByte l c) = l.contains c := by
  induction l with
  | nil => rfl
  | cons a l ih =>
    have := Lib.indexByte_ge l c
    by_cases hc : a = c
    · simp [Lib.indexByte, hc]
    · have hc' : c ≠ a := fun h => hc h.symm
      simp only [Lib.indexByte, beq_iff_eq, hc, if_false, List.contains_cons, ← ih]
      by_cases h1 : Lib.indexByte l c = -1
      · simp [h1, hc']
      · have : 0 ≤ Lib.indexByte l c := by omega
        simp [h1, this]; omega
def hasC (c : UInt8) (l : List UInt8) : Bool := l.contains c
def anyC (c : UInt8) (L : List (List UInt8)) : Bool := L.any (·.contains c)
theorem contains_snoc (l : List UInt8) (k : Nat) (c d : UInt8) (h : l[k]? = some d) (hn : (l.take k).contains c = false) (hd : d ≠ c) : (l.take (k + 1)).contains c = false := by
  rw [List.take_add_one, h]
  rw [Bool.eq_false_iff] at hn ⊢
  intro hm
  rw [List.contains_iff_mem] at hm
  rw [ne_eq, List.contains_iff_mem] at hn
  rcases List.mem_append.1 hm with hm | hm
  · exact hn hm
  · simp at hm; exact hd hm.symm
theorem among_any (c : UInt8) (s : ByteArray) (hs : s.size ≤ 1000000000) (w : World) :
    Calls Tryd.prog 104 #[.int .u8 c.toNat, .string s] w fun e w' => e = .returned (.bool (hasC c s.data.toList)) ∧ w = w' := by
  go_enter Tryd.func104, Tryd.ntmps104
  go_wp2
  go_loop [5] (fun i => ∃ k : Nat, k ≤ s.size ∧ i = .int .i64 k ∧ (s.data.toList.take k).contains c = false) (fun i => s.size - (intOf i).toNat)
  case atStart => exact ⟨0, by omega, rfl, rfl⟩
  case round =>
    obtain ⟨k, hk, rfl, hno⟩ := hrel
    have Hno := Lib.hid hno; clear hno
    by_cases hlt : k < s.size
    · obtain ⟨d, hd⟩ : ∃ d, s[k] = d := ⟨_, rfl⟩
      have kI : (k : Int) < (s.size : Int) := by omega
      by_cases h : d = c
      · subst h
        have HM : Hid (hasC d s.data.toList = true) := Lib.hid (by unfold hasC; rw [List.contains_iff_mem]; exact List.mem_of_getElem? (by rw [get_data s k hlt, hd]))
        have e1 : ((d.toNat : Int) == d.toNat) = true := by simp
        go_wp2
        go_ret
        exact ⟨ret_bool HM.out.symm, rfl⟩
      · have HN := Lib.hid (contains_snoc _ k c d (by rw [get_data s k hlt, hd]) Hno.out h)
        have e1 : ((d.toNat : Int) == c.toNat) = false := by
          rw [beq_eq_false_iff_ne]
          intro hh
          exact h (UInt8.toNat_inj.1 (by omega))
        clear h
        go_wp2
        go_round
        case rel => exact ⟨k + 1, by omega, by go_num, HN.out⟩
        case measure => simp [intOf]; omega
    · obtain rfl : k = s.size := by omega
      have hno := Hno.out
      rw [List.take_of_length_le (by rw [data_len]; exact Nat.le_refl _)] at hno
      have HM : Hid (hasC c s.data.toList = false) := Lib.hid hno
      clear hno
      go_wp2
      go_ret
      exact ⟨ret_bool HM.out.symm, rfl⟩
def hexaR (c : UInt8) : Int := if isHex c = true then (dig c : Int) else 99
theorem hexa_any (c : UInt8) (w : World) :
    Calls Tryd.prog 102 #[.int .u8 c.toNat] w fun e w' => e = .returned (.int .i64 (hexaR c)) ∧ Below w.heap.size w w' := by
  have NA := fun w => refNumber16_any ⟨#[c]⟩ (by show 1 ≤ _; omega) 15 (by omega) (by omega) w
  rw [show (⟨#[c]⟩ : ByteArray).data.toList = [c] from rfl, hex1] at NA
  have hcv : (convert 22 9 (.slice (some ⟨w.heap.size, 0, none⟩) 1 1)).run Tryd.prog (w.alloc (.cells #[.int .u8 c.toNat] 5)) = .ok (.string ⟨#[c]⟩) (w.alloc (.cells #[.int .u8 c.toNat] 5)) := run_one_string w _ c rfl
  unfold hexaR
  by_cases h : isHex c = true
  · rw [if_pos h] at NA ⊢
    obtain ⟨x, hx⟩ : ∃ x : Int, (dig c : Int) = x := ⟨_, rfl⟩
    rw [hx] at NA ⊢
    replace NA := Lib.hid NA
    clear hx h
    go_enter Tryd.func102, Tryd.ntmps102
    go_wp2_with (go_at_call 142; refine (NA.out _).mono ?_; rintro e w2 ⟨rfl, rfl⟩)
    go_ret
    exact ⟨rfl, (Below.refl _ _).alloc (Nat.le_refl _) _⟩
  · rw [if_neg h] at NA ⊢
    replace NA := Lib.hid NA
    clear h
    go_enter Tryd.func102, Tryd.ntmps102
    go_wp2_with (go_at_call 142; refine (NA.out _).mono ?_; rintro e w2 ⟨rfl, rfl⟩)
    go_ret
    exact ⟨rfl, (Below.refl _ _).alloc (Nat.le_refl _) _⟩
theorem IndexByte_t (s : ByteArray) (c : UInt8) (w : World) : Calls Tryd.prog 92 #[.string s, .int .u8 c.toNat] w fun e w' => e = .returned (.int .i64 (Lib.indexByte s.data.toList c)) ∧ w = w' := by
  have := Tryd.strings_IndexByte s c.toNat w
  rw [show (c.toNat : Int).toNat.toUInt8 = c by simp] at this
  exact this.mono fun _ _ ⟨h1, h2⟩ => ⟨h1, h2.symm⟩
set_option maxHeartbeats 2000000 in
theorem of_any (c : UInt8) (A : Option Addr) (n cp : Nat) (L : List (List UInt8)) (w : World) (hin : SliceIn w w.heap.size 1 A n cp (strsV L)) (hs : n ≤ 1000000) :
    Calls Tryd.prog 172 #[.int .u8 c.toNat, .slice A n cp] w fun e w' => e = .returned (.bool (ofL L c)) ∧ Below w.heap.size w w' := by
  have hL : L.length = n := by have := hin.1; rw [strsV_length] at this; omega
  have LT := Lib.hid (fun w => tletter_any c w)
  by_cases hl : isLetter c = true
  · have ho : ofL L c = true := by simp [ofL, hl]
    rw [ho]
    rw [hl] at LT
    clear ho
    go_enter Tryd.func172, Tryd.ntmps172
    go_wp2_with (go_at_call 189; refine (LT.out _).mono ?_; rintro e w2 ⟨rfl, rfl⟩)
    go_ret
    exact ⟨rfl, Below.refl _ _⟩
  · have hl' : isLetter c = false := by simpa using hl
    have ho : ofL L c = anyC c L := by simp [ofL, anyC, hl']
    rw [ho]
    rw [hl'] at LT
    have HL := Lib.hid hL
    have Hin := Lib.hid hin
    clear ho hl hl' hL hin
    go_enter Tryd.func172, Tryd.ntmps172
    go_wp2_with (go_at_call 189; refine (LT.out _).mono ?_; rintro e w2 ⟨rfl, rfl⟩)
    go_loopw [11] (fun i wr => ∃ k : Nat, k ≤ n ∧ i = .int .i64 k ∧ (L.take k).any (·.contains c) = false ∧ Below w.heap.size w wr) (fun i _ => n - (intOf i).toNat)
    case atStart => exact ⟨0, by omega, rfl, rfl, Below.refl _ _⟩
    case round =>
      obtain ⟨w0, rfl⟩ : ∃ w0 : World, w0 = wr := ⟨_, rfl⟩
      obtain ⟨k, hk, rfl, hno, hbel⟩ := hrel
      have Hno := Lib.hid hno
      have HB := Lib.hid hbel
      clear hno
      by_cases hlt : k < n
      · obtain ⟨l, hlk⟩ : ∃ l, L[k]? = some l := ⟨_, List.getElem?_eq_getElem (by have := HL.out; omega)⟩
        obtain ⟨b, off, rfl, hb, hcell⟩ := (Hin.out.below hbel).2.2.2 (by omega)
        have hc : w0.cell? ⟨b, off + k, none⟩ = some (.string ⟨l.toArray⟩) := hcell k _ (by rw [strsV_get, hlk]; rfl)
        obtain ⟨S, hS⟩ : ∃ S : ByteArray, (⟨l.toArray⟩ : ByteArray) = S := ⟨_, rfl⟩
        rw [hS] at hc
        have IX := fun w => IndexByte_t S c w
        have hcon := ix_contains S.data.toList c
        have hSl : S.data.toList = l := by rw [← hS]
        rw [hSl] at IX hcon
        obtain ⟨x, hx⟩ : ∃ x, Lib.indexByte l c = x := ⟨_, rfl⟩
        have hgs := hbel.size
        rw [hx] at IX hcon
        replace IX := Lib.hid IX
        by_cases hm : l.contains c = true
        · have HT : Hid (anyC c L = true) := Lib.hid (List.any_eq_true.2 ⟨l, List.mem_of_getElem? hlk, hm⟩)
          rw [hm, decide_eq_true_eq] at hcon
          clear hm hx hSl hS hlk hcell hbel
          go_wp2_with (go_at_call 92; refine (IX.out _).mono ?_; rintro e w2 ⟨rfl, rfl⟩)
          go_ret
          exact ⟨ret_bool HT.out.symm, HB.out⟩
        · have hm' : l.contains c = false := by simpa using hm
          have HT : Hid ((L.take (k + 1)).any (·.contains c) = false) := Lib.hid (by rw [List.take_add_one, hlk, List.any_append, Hno.out]; simp only [Option.toList_some, List.any_cons, hm', List.any_nil, Bool.or_false])
          rw [hm', decide_eq_false_iff_not] at hcon
          have hx0 : x < 0 := by omega
          clear hm hm' hx hSl hS hlk hcell hbel hcon
          go_wp2_with (go_at_call 92; refine (IX.out _).mono ?_; rintro e w2 ⟨rfl, rfl⟩)
          go_roundw
          case rel => exact ⟨k + 1, by omega, by go_num, HT.out, HB.out⟩
          case measure => simp [intOf]; omega
      · obtain rfl : n = k := by omega
        have hno := Hno.out
        rw [List.take_of_length_le (by have := HL.out; omega)] at hno
        have HT : Hid (anyC c L = false) := Lib.hid hno
        clear hno
        go_wp2
        go_ret
        exact ⟨ret_bool HT.out.symm, HB.out⟩
end Go.Proofs.YtaddefjkjlkjnaaDoor
