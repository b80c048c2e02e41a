/- Cz: several texts, one behind the other. -/
import Derived.Test.YtniiadhhefgmcaaGreatDoorFq
import Derived.Test.YtniiadhhefgmcaaGreatDoorOg
import Derived.Test.YtniiadhhefgmcaaGreatDoorOv
import Derived.Test.YtniiadhhefgmcaaGreatDoorCk
import Derived.Shelf.Strings.SlTrimAscii
/- Walks of layer 7: bytes.IndexByte at lists, a line, by the code. Condition: at most 10^9 octets. -/
namespace Go.Proofs.YtniiadhhefgmcaaGreatDoor
open Go.RowKit IH
set_option maxRecDepth 100000
theorem ixByte_find (c : UInt8) (l : List UInt8) : Lib.indexByte l c = match l.findIdx? (· == c) with | none => -1 | some n => (n : Int) := by
  induction l with
  | nil => rfl
  | cons x a ih =>
    unfold Lib.indexByte
    rw [List.findIdx?_cons]
    cases h : x == c with
    | true => simp
    | false =>
      rw [ih]
      cases hf : a.findIdx? (· == c) with
      | none => simp
      | some n =>
        have h3 : ((n : Int) == -1) = false := by rw [beq_eq_false_iff_ne]; omega
        simp [h3]
theorem bIndexByte_at {B : Nat} (b o n c : Nat) (l : List UInt8) (W : World) (h : SliceIn W B 1 (some ⟨b, o, none⟩) n c (bytesV l)) :
    Calls Tryz.prog 168 #[.slice (some ⟨b, o, none⟩) n c, .int .u8 10] W fun e w' => e = .returned (.int .i64 (Lib.indexByte l 10)) ∧ W = w' := by
  obtain ⟨x1, x2⟩ := nats_cells h
  have := Tryz.bytes_IndexByte_at ⟨b, o, none⟩ n c (natsI l) 10 W x1 x2
  rw [bytesOf_nats] at this
  refine this.mono ?_
  rintro e w' ⟨rfl, rfl⟩
  exact ⟨rfl, rfl⟩
set_option maxHeartbeats 4000000 in
theorem cline_any (b0 off n c B : Nat) (l : List UInt8) (w : World) (hin : SliceIn w B 1 (some ⟨b0, off, none⟩) n c (bytesV l)) (hn : n ≤ 1000000000) :
    Calls Tryz.prog 171 #[.slice (some ⟨b0, off, none⟩) n c] w fun e w' => e = .returned (.tuple #[.string ⟨(lineC l).1.toArray⟩, .int .i64 (lineC l).2.1, .int .i64 (lineC l).2.2]) ∧ Below w.heap.size w w' := by
  have hnc := hin.2.1
  have hll : l.length = n := by have := hin.1; rw [bytesV_length, Nat.mul_one] at this; exact this
  obtain ⟨m, hm⟩ : ∃ m, min n 256 = m := ⟨_, rfl⟩
  have hmn : m ≤ n := by omega
  have hmI : min (n : Int) 256 = (m : Int) := by omega
  have hsub := hin.sub (a := 0) (b := m) (by omega) hmn (some ⟨b0, off, none⟩) (fun _ => by simp [add_plain])
  simp only [Nat.sub_zero, Nat.mul_one, List.drop_zero] at hsub
  rw [show (bytesV l).take m = bytesV (l.take m) by simp [bytesV, List.map_take]] at hsub
  have htk : l.take m = l.take 256 := by
    by_cases h : n ≤ 256
    · rw [List.take_of_length_le (by omega), List.take_of_length_le (by omega)]
    · rw [show m = 256 by omega]
  rw [htk] at hsub
  have IX := bIndexByte_at b0 off m c (l.take 256) w hsub
  rw [ixByte_find] at IX
  have j0 : m ≤ c := by omega
  have jI : (m : Int) ≤ (c : Int) := by omega
  clear hsub htk
  unfold lineC
  cases hf : (l.take 256).findIdx? (· == 10) with
  | none =>
    rw [hf] at IX
    simp only at IX ⊢
    replace IX := Lib.hid IX
    clear hf hin
    by_cases h1 : 256 ≤ l.length
    · rw [if_pos h1]
      have k1 : (256 : Int) ≤ (n : Int) := by omega
      clear h1 hll
      go_enter Tryz.func171, Tryz.ntmps171
      go_wp2_with (go_at_call 168; refine IX.out.mono ?_; rintro e w2 ⟨rfl, rfl⟩)
      go_ret3
      exact ⟨rfl, by first | exact Below.refl _ _ | exact below_drewN (Below.refl _ _) 1⟩
    · rw [if_neg h1]
      have k1 : ¬ (256 : Int) ≤ (n : Int) := by omega
      clear h1 hll
      go_enter Tryz.func171, Tryz.ntmps171
      go_wp2_with (go_at_call 168; refine IX.out.mono ?_; rintro e w2 ⟨rfl, rfl⟩)
      go_ret3
      exact ⟨rfl, by first | exact Below.refl _ _ | exact below_drewN (Below.refl _ _) 1⟩
  | some k =>
    rw [hf] at IX
    simp only at IX ⊢
    have hk := findIdx_lt hf
    rw [List.length_take] at hk
    replace IX := Lib.hid IX
    clear hf
    by_cases h0 : k = 0
    · subst h0
      rw [if_pos (.inl rfl)]
      clear hin
      go_enter Tryz.func171, Tryz.ntmps171
      go_wp2_with (go_at_call 168; refine IX.out.mono ?_; rintro e w2 ⟨rfl, rfl⟩)
      go_ret3
      exact ⟨rfl, by first | exact Below.refl _ _ | exact below_drewN (Below.refl _ _) 1⟩
    · obtain ⟨x, hx⟩ : ∃ x, l[k - 1]? = some x := ⟨_, List.getElem?_eq_getElem (by omega)⟩
      rw [hx]
      obtain ⟨j, rfl⟩ : ∃ j, k = j + 1 := ⟨k - 1, by omega⟩
      have e1 : j + 1 - 1 = j := by omega
      rw [e1] at hx
      have hcell : w.cell? ⟨b0, off + j, none⟩ = some (.int .u8 x.toNat) := by
        obtain ⟨b', o', e, _, hc⟩ := hin.2.2.2 (by omega)
        simp only [Option.some.injEq, Addr.mk.injEq, and_true] at e
        obtain ⟨rfl, rfl⟩ := e
        exact hc j (.int .u8 x.toNat) (by rw [bytesV_get, hx]; rfl)
      have i1 : ((j + 1 : Nat) : Int) - 1 = (j : Int) := by omega
      have i2 : (j : Int) < (n : Int) := by omega
      have i0 : (((j + 1 : Nat) : Int) == 0) = false := by rw [beq_eq_false_iff_ne]; omega
      have i3 : (j : Int) ≤ (n : Int) := by omega
      have j3 : j ≤ c := by omega
      have j4 : j < n := by omega
      by_cases h13 : x = 13
      · subst h13
        rw [if_neg (by rintro (h | h); omega; exact h rfl), e1]
        have hs2 := hin.sub (a := 0) (b := j) (by omega) (by omega) (some ⟨b0, off, none⟩) (fun _ => by simp [add_plain])
        simp only [Nat.sub_zero, Nat.mul_one, List.drop_zero] at hs2
        rw [show (bytesV l).take j = bytesV (l.take j) by simp [bytesV, List.map_take]] at hs2
        have hcs := run_string_of (P := Tryz.prog) hs2 25 9 5 Tryz.underlying25 Tryz.underlying5 Tryz.underlying9
        have e13 : (((13 : UInt8).toNat : Int) == 13) = true := rfl
        generalize (⟨(l.take j).toArray⟩ : ByteArray) = X at *
        clear hs2 hin hx
        go_enter Tryz.func171, Tryz.ntmps171
        go_wp2_with (go_at_call 168; refine IX.out.mono ?_; rintro e w2 ⟨rfl, rfl⟩)
        go_ret3
        exact ⟨rfl, by first | exact Below.refl _ _ | exact below_drewN (Below.refl _ _) 1⟩
      · rw [if_pos (.inr fun h => h13 (Option.some.inj h))]
        have e13 : ((x.toNat : Int) == 13) = false := by rw [beq_eq_false_iff_ne]; intro h; exact h13 (UInt8.toNat_inj.1 (by have : (13 : UInt8).toNat = 13 := rfl; omega))
        have n13 : ((x.toNat : Int) != 13) = true := by rw [bne, e13]; rfl
        clear hin hx
        go_enter Tryz.func171, Tryz.ntmps171
        go_wp2_with (go_at_call 168; refine IX.out.mono ?_; rintro e w2 ⟨rfl, rfl⟩)
        go_ret3
        exact ⟨rfl, by first | exact Below.refl _ _ | exact below_drewN (Below.refl _ _) 1⟩
end Go.Proofs.YtniiadhhefgmcaaGreatDoor

/- Walks of layer 7: what stands behind a size, and a size line's, by the code. Condition: at most 10^9 octets. -/
namespace Go.Proofs.YtniiadhhefgmcaaGreatDoor
open Go.RowKit IH
set_option maxRecDepth 100000
theorem trimLs (l : List UInt8) : Lib.trimLeftS l [32, 9] = l.dropWhile isBlank := by
  have hp : (fun x : UInt8 => [32, 9].contains x) = isBlank := by
    funext c
    rw [Bool.eq_iff_iff]
    simp [isBlank, ← UInt8.toNat_inj]
  unfold Lib.trimLeftS
  rw [hp]
theorem ext_parts (l : List UInt8) (h : l ≠ []) : extC l = (Lib.hasPrefix (l.dropWhile isBlank) [59] && value (trim (Lib.trimPrefix (l.dropWhile isBlank) [59]))) := by
  unfold extC Lib.trimPrefix Lib.hasPrefix
  cases l with
  | nil => exact absurd rfl h
  | cons a b =>
    simp only
    cases (a :: b).dropWhile isBlank with
    | nil => rfl
    | cons c r =>
      by_cases hc : c = 59
      · subst hc; simp
      · have h' : (59 == c) = false := by rw [beq_eq_false_iff_ne]; exact fun e => hc e.symm
        have h2 : (c == 59) = false := by rw [beq_eq_false_iff_ne]; exact hc
        simp [h', h2, List.isPrefixOf]
theorem tpre_le (l p : List UInt8) : (Lib.trimPrefix l p).length ≤ l.length := by
  unfold Lib.trimPrefix
  split
  · rw [List.length_drop]; omega
  · exact Nat.le_refl _
theorem CutPrefix_c (s p : ByteArray) (w : World) :
    Calls Tryz.prog 201 #[.string s, .string p] w fun e w' => e = .returned (.tuple #[.string ⟨(Lib.trimPrefix s.data.toList p.data.toList).toArray⟩, .bool (Lib.hasPrefix s.data.toList p.data.toList)]) ∧ w = w' :=
  (Tryz.strings_CutPrefix s p w).mono fun _ _ ⟨h1, h2⟩ => ⟨h1, h2.symm⟩
set_option maxHeartbeats 4000000 in
theorem cext_any (s : ByteArray) (hs : s.size ≤ 1000000000) (w : World) :
    Calls Tryz.prog 197 #[.string s] w fun e w' => e = .returned (.bool (extC s.data.toList)) ∧ Below w.heap.size w w' := by
  by_cases h0 : s.data.toList = []
  · have e0 : (s.toList == []) = true := by rw [beq_iff_eq, ByteArray.toList_eq]; exact h0
    have e1 : s.toList = [] := by rw [ByteArray.toList_eq]; exact h0
    rw [h0]
    clear h0
    go_enter Tryz.func197, Tryz.ntmps197
    go_wp2
    go_ret
    exact ⟨rfl, Below.refl _ _⟩
  · have e0 : (s.toList == []) = false := by rw [beq_eq_false_iff_ne, ByteArray.toList_eq]; exact h0
    rw [ext_parts _ h0]
    have TL := Any.strings_TrimLeft_laid Tryz.lays161 (by kernel_rfl) s ⟨#[32, 9]⟩ w (by decide) (ascii_of_all (by decide))
    have hT : Lib.trimLeftS s.data.toList (⟨#[32, 9]⟩ : ByteArray).data.toList = s.data.toList.dropWhile isBlank := trimLs _
    rw [hT] at TL
    have hl1 : (s.data.toList.dropWhile isBlank).length ≤ s.size := by have := (List.dropWhile_suffix (l := s.data.toList) isBlank).length_le; rw [data_len] at this; exact this
    obtain ⟨T, hTT⟩ : ∃ T, s.data.toList.dropWhile isBlank = T := ⟨_, rfl⟩
    rw [hTT] at TL hl1 ⊢
    have CP := fun w => CutPrefix_c ⟨T.toArray⟩ ⟨#[59]⟩ w
    have e : (⟨#[59]⟩ : ByteArray).data.toList = [59] := rfl
    have e' : (⟨T.toArray⟩ : ByteArray).data.toList = T := by simp
    rw [e, e'] at CP
    have hl2 := tpre_le T [59]
    obtain ⟨R, hR⟩ : ∃ R, Lib.trimPrefix T [59] = R := ⟨_, rfl⟩
    rw [hR] at CP hl2 ⊢
    obtain ⟨ok, hok⟩ : ∃ ok, Lib.hasPrefix T [59] = ok := ⟨_, rfl⟩
    rw [hok] at CP ⊢
    have TR : ∀ w, Calls Tryz.prog 123 #[.string ⟨R.toArray⟩] w fun e w' => e = .returned (.string ⟨(trim R).toArray⟩) ∧ Below w.heap.size w w' := fun w => Trim_any ⟨R.toArray⟩ (by rw [size_mk]; omega) w
    have hl3 := trim_le R
    have VA : ∀ w, Calls Tryz.prog 143 #[.string ⟨(trim R).toArray⟩] w fun e w' => e = .returned (.bool (value (trim R))) ∧ Below w.heap.size w w' := fun w => Value_any ⟨(trim R).toArray⟩ (by rw [size_mk]; omega) w
    generalize value (trim R) = v at *
    generalize (⟨T.toArray⟩ : ByteArray) = T' at *
    generalize (⟨(trim R).toArray⟩ : ByteArray) = Z at *
    generalize (⟨R.toArray⟩ : ByteArray) = R' at *
    replace TL := Lib.hid TL
    replace CP := Lib.hid CP
    replace TR := Lib.hid TR
    replace VA := Lib.hid VA
    clear hTT hR hok e e' hT hl1 hl2 hl3 h0 hs
    cases ok
    · go_enter Tryz.func197, Tryz.ntmps197
      go_wp2_with (first
        | (go_at_call 202; refine TL.out.mono ?_; rintro e w2 ⟨rfl, hb2⟩; have B2 := Lib.hid hb2; clear hb2)
        | (go_at_call 201; refine (CP.out _).mono ?_; rintro e w3 ⟨rfl, rfl⟩))
      go_ret
      exact ⟨rfl, B2.out⟩
    · go_enter Tryz.func197, Tryz.ntmps197
      go_wp2_with (first
        | (go_at_call 202; refine TL.out.mono ?_; rintro e w2 ⟨rfl, hb2⟩; have B2 := Lib.hid hb2; clear hb2)
        | (go_at_call 201; refine (CP.out _).mono ?_; rintro e w3 ⟨rfl, rfl⟩)
        | (go_at_call 123; refine (TR.out _).mono ?_; rintro e w4 ⟨rfl, hb4⟩; have B4 := Lib.hid (below_step B2.out hb4); clear hb4)
        | (go_at_call 143; refine (VA.out _).mono ?_; rintro e w5 ⟨rfl, hb5⟩; have B5 := Lib.hid (below_step B4.out hb5); clear hb5))
      go_ret
      exact ⟨by simp, B5.out⟩
theorem hex1 (c : UInt8) : (numR 16 15 [c]).2 = if isHex7 c = true then 0 else 10 := by
  unfold numR badDig isHex7
  by_cases h : dig c < 16
  · have h1 : ¬ (16 ≤ dig c) := by omega
    have h2 : ¬ ((dig c : Int) > 15 ∨ (0 : Int) > (15 - (dig c : Int)) / 16) := by omega
    simp [h, h1, accN, h2, accR]
  · have h1 : 16 ≤ dig c := by omega
    simp [h, h1]
/-- What is left of the head behind k octets. -/
def hexW (k : Nat) (s : List UInt8) : List UInt8 := ((s.drop k).take (8 - k)).takeWhile isHex7
theorem hexW_0 (s : List UInt8) : hexHead s = s.take 0 ++ hexW 0 s := by simp [hexHead, hexW]
theorem hexW_step {s : List UInt8} {k : Nat} {c : UInt8} (hc : s[k]? = some c) (hk : k < 8) (h : isHex7 c = true) : s.take k ++ hexW k s = s.take (k + 1) ++ hexW (k + 1) s := by
  obtain ⟨h1, h2⟩ := List.getElem?_eq_some_iff.1 hc
  unfold hexW
  rw [List.take_add_one, hc, List.drop_eq_getElem_cons h1, h2, show 8 - k = (8 - (k + 1)) + 1 by omega, List.take_succ_cons, List.takeWhile_cons, if_pos h]
  simp
theorem hexW_stop {s : List UInt8} {k : Nat} {c : UInt8} (hc : s[k]? = some c) (h : isHex7 c = false) : hexW k s = [] := by
  obtain ⟨h1, h2⟩ := List.getElem?_eq_some_iff.1 hc
  unfold hexW
  rw [List.drop_eq_getElem_cons h1, h2]
  cases 8 - k with
  | zero => rfl
  | succ m => rw [List.take_succ_cons, List.takeWhile_cons, if_neg (by simp [h])]
theorem hexW_end {s : List UInt8} {k : Nat} (h : s.length ≤ k ∨ 8 ≤ k) : hexW k s = [] := by
  unfold hexW
  rcases h with h | h
  · rw [List.drop_eq_nil_of_le h]; simp
  · rw [show 8 - k = 0 by omega]; simp
theorem numR_ge (b : Nat) (hb : 0 < b) (M : Int) (l : List UInt8) : 0 ≤ (numR b M l).1 ∧ ((numR b M l).2 = 0 → (numR b M l).1 ≤ M) := by
  unfold numR
  split
  · simp
  · split
    · simp
    · split
      · simp
      · cases h : accN b M 0 l with
        | none => simp [accR]
        | some m =>
          have := accN_bound b hb M 0 m l h (by omega) (by omega)
          simp [accR]; omega
theorem sizeC_of_head {s : List UInt8} {k : Nat} (h : hexHead s = s.take k) (hk : k ≤ s.length) :
    sizeC s = if (numR 16 4294967296 (s.take k)).2 ≠ 0 ∨ extC (s.drop k) = false then -1 else (numR 16 4294967296 (s.take k)).1 := by
  unfold sizeC
  rw [h, List.length_take, show min k s.length = k by omega]
set_option maxHeartbeats 8000000 in
theorem csize_any (s : ByteArray) (hs : s.size ≤ 1000000000) (w : World) :
    Calls Tryz.prog 187 #[.string s] w fun e w' => e = .returned (.tuple #[.int .i64 (max 0 (sizeC s.data.toList)), .int .i64 (if sizeC s.data.toList < 0 then 10 else 0)]) ∧ Below w.heap.size w w' := by
  obtain ⟨E2, hE2⟩ : ∃ x : Int, (if sizeC s.data.toList < 0 then (10 : Int) else 0) = x := ⟨_, rfl⟩
  rw [hE2]
  have HE := Lib.hid hE2
  clear hE2
  go_enter Tryz.func187, Tryz.ntmps187
  go_wp2
  go_loopw [4] (fun v wr => ∃ k : Nat, v = .int .i64 k ∧ k ≤ s.size ∧ k ≤ 8 ∧ hexHead s.data.toList = s.data.toList.take k ++ hexW k s.data.toList ∧ Below w.heap.size w wr) (fun v _ => 8 - (intOf v).toNat)
  case atStart => exact ⟨0, rfl, by omega, by omega, hexW_0 _, Below.refl _ _⟩
  case round =>
    obtain ⟨k, rfl, hk, hk8, hinv, hbel⟩ := hrel
    have Hbel := Lib.hid hbel
    clear hbel
    have it : ((k : Int) + 1).toNat = k + 1 := by omega
    have fin : ∀ (hw : hexW k s.data.toList = []), ∃ (h1 h2 : Int) (E : Bool), (∀ W, Calls Tryz.prog 196 #[.string (s.extract 0 k), .int .i64 4294967296] W fun e w' => e = .returned (.tuple #[.int .i64 h1, .int .i64 h2]) ∧ Below W.heap.size W w') ∧ (∀ W, Calls Tryz.prog 197 #[.string (s.extract k s.size)] W fun e w' => e = .returned (.bool E) ∧ Below W.heap.size W w') ∧ 0 ≤ h1 ∧ sizeC s.data.toList = if h2 ≠ 0 ∨ E = false then -1 else h1 := by
      intro hw
      rw [hw, List.append_nil] at hinv
      have hz : (s.extract 0 k).size ≤ 1000000000 := by simp; omega
      have hz2 : (s.extract k s.size).size ≤ 1000000000 := by simp; omega
      have H1 := fun W => Hex_any (s.extract 0 k) hz 4294967296 (by omega) (by omega) W
      have H2 := fun W => cext_any (s.extract k s.size) hz2 W
      rw [take_data s k hk] at H1
      rw [drop_data] at H2
      exact ⟨_, _, _, H1, H2, (numR_ge 16 (by omega) _ _).1, sizeC_of_head hinv (by rw [data_len]; exact hk)⟩
    by_cases hlt : k < s.size ∧ k < 8
    · obtain ⟨h1, h2⟩ := hlt
      obtain ⟨c, hc⟩ : ∃ c, s.data.toList[k]? = some c := ⟨_, get_data s k h1⟩
      have hd1 : (s.extract k (k + 1)).data.toList = [c] := by
        rw [Lib.extract_data]
        obtain ⟨g1, g2⟩ := List.getElem?_eq_some_iff.1 hc
        rw [List.drop_eq_getElem_cons g1, g2, show k + 1 - k = 1 by omega]
        rfl
      have HX := fun W => Hex_any (s.extract k (k + 1)) (by simp; omega) 15 (by omega) (by omega) W
      rw [hd1, hex1] at HX
      obtain ⟨x1, hx1⟩ : ∃ x1, (numR 16 15 [c]).1 = x1 := ⟨_, rfl⟩
      rw [hx1] at HX
      have j1 : (k : Int) < (s.size : Int) := by omega
      have j2 : (k : Int) < 8 := by omega
      have j3 : (k : Int) + 1 ≤ (s.size : Int) := by omega
      cases hp : isHex7 c with
      | true =>
        rw [hp, if_pos rfl] at HX
        replace HX := Lib.hid HX
        rw [hexW_step hc h2 hp] at hinv
        have HI := Lib.hid hinv
        clear hinv fin hc hd1 hx1 hp hk hk8
        go_wp2_with (go_at_call 196; (with_reducible refine (HX.out _).mono ?_); rintro e w2 ⟨rfl, hb2⟩; have B2 := Lib.hid (below_step Hbel.out hb2); clear hb2)
        go_roundw
        case rel => exact ⟨k + 1, by go_num, by omega, by omega, HI.out, B2.out⟩
        case measure => simp [intOf]; omega
      | false =>
        rw [hp, if_neg (by simp)] at HX
        replace HX := Lib.hid HX
        obtain ⟨q1, q2, E, H1, H2, hq, hsz⟩ := fin (hexW_stop hc hp)
        replace H1 := Lib.hid H1
        replace H2 := Lib.hid H2
        have HS := Lib.hid hsz
        clear hinv fin hc hd1 hx1 hp hk8 hsz
        by_cases hq2 : q2 = 0
        · subst hq2
          cases E
          all_goals
            go_wp2_with (first
              | (go_at_call 196; (with_reducible refine (HX.out _).mono ?_); rintro e w2 ⟨rfl, hb2⟩; have B2 := Lib.hid (below_step Hbel.out hb2); clear hb2)
              | (go_at_call 196; (with_reducible refine (H1.out _).mono ?_); rintro e w3 ⟨rfl, hb3⟩; have B3 := Lib.hid (below_step B2.out hb3); clear hb3)
              | (go_at_call 197; (with_reducible refine (H2.out _).mono ?_); rintro e w4 ⟨rfl, hb4⟩; have B4 := Lib.hid (below_step B3.out hb4); clear hb4))
            go_ret2
            first
              | exact ⟨by rw [← HE.out, HS.out]; rfl, B4.out⟩
              | exact ⟨by rw [← HE.out, show sizeC s.data.toList = q1 from HS.out.trans (if_neg (by simp)), show max 0 q1 = q1 by omega, if_neg (show ¬ q1 < 0 by omega)]; rfl, B4.out⟩
        · have n2 : (q2 != 0) = true := by rw [bne_iff_ne]; exact hq2
          go_wp2_with (first
            | (go_at_call 196; (with_reducible refine (HX.out _).mono ?_); rintro e w2 ⟨rfl, hb2⟩; have B2 := Lib.hid (below_step Hbel.out hb2); clear hb2)
            | (go_at_call 196; (with_reducible refine (H1.out _).mono ?_); rintro e w3 ⟨rfl, hb3⟩; have B3 := Lib.hid (below_step B2.out hb3); clear hb3))
          go_ret2
          exact ⟨by rw [← HE.out, HS.out, if_pos (.inl hq2)]; rfl, B3.out⟩
    · obtain ⟨q1, q2, E, H1, H2, hq, hsz⟩ := fin (hexW_end (by rw [data_len]; omega))
      replace H1 := Lib.hid H1
      replace H2 := Lib.hid H2
      have HS := Lib.hid hsz
      clear hinv fin hsz
      have hways : (k < s.size ∧ ¬ (k : Int) < 8) ∨ ¬ (k : Int) < (s.size : Int) := by omega
      rcases hways with ⟨hk1, hk2⟩ | hk1
      all_goals
        by_cases hq2 : q2 = 0
        · subst hq2
          cases E
          all_goals
            go_wp2_with (first
              | (go_at_call 196; (with_reducible refine (H1.out _).mono ?_); rintro e w3 ⟨rfl, hb3⟩; have B3 := Lib.hid (below_step Hbel.out hb3); clear hb3)
              | (go_at_call 197; (with_reducible refine (H2.out _).mono ?_); rintro e w4 ⟨rfl, hb4⟩; have B4 := Lib.hid (below_step B3.out hb4); clear hb4))
            go_ret2
            first
              | exact ⟨by rw [← HE.out, HS.out]; rfl, B4.out⟩
              | exact ⟨by rw [← HE.out, show sizeC s.data.toList = q1 from HS.out.trans (if_neg (by simp)), show max 0 q1 = q1 by omega, if_neg (show ¬ q1 < 0 by omega)]; rfl, B4.out⟩
        · have n2 : (q2 != 0) = true := by rw [bne_iff_ne]; exact hq2
          go_wp2_with (first
            | (go_at_call 196; (with_reducible refine (H1.out _).mono ?_); rintro e w3 ⟨rfl, hb3⟩; have B3 := Lib.hid (below_step Hbel.out hb3); clear hb3))
          go_ret2
          exact ⟨by rw [← HE.out, HS.out, if_pos (.inl hq2)]; rfl, B3.out⟩
end Go.Proofs.YtniiadhhefgmcaaGreatDoor

/- Walks of layer 7's document: a line, a size line's. Condition: at most 10^9 octets. -/
namespace Go.Proofs.YtniiadhhefgmcaaGreatDoor
open Go.RowKit IH
set_option maxRecDepth 100000
end Go.Proofs.YtniiadhhefgmcaaGreatDoor

/- Walk of layer 7's document: a size line's. Condition: at most 10^9 octets. -/
namespace Go.Proofs.YtniiadhhefgmcaaGreatDoor
open Go.RowKit IH
set_option maxRecDepth 100000
end Go.Proofs.YtniiadhhefgmcaaGreatDoor

