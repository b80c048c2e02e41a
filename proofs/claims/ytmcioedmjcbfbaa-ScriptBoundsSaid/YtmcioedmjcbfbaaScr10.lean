/- Walks of layer 27: the number of a text, by the document. Condition: texts within 10^9 octets. -/
import Derived.Test.YtmcioedmjcbfbaaScr9
namespace Go.Proofs.Ytmcioedmjcbfbaa
open Go.RowKit IH
set_option maxRecDepth 100000
theorem wrap_in (x : Int) : inI (IntKind.i64.wrap x) := by unfold inI; rw [IntKind.wrap_i64]; omega
theorem wrap_id (x : Int) (h : inI x) : IntKind.i64.wrap x = x := IntWalk.i64_in _ h
theorem wrap_two (x d : Int) : IntKind.i64.wrap (IntKind.i64.wrap x - d) = IntKind.i64.wrap (x - d) := by rw [IntKind.wrap_i64, IntKind.wrap_i64, IntKind.wrap_i64]; omega
theorem downW_snoc (W : Int → Int) (c : UInt8) : ∀ (l : List UInt8) (z : Int), downW W z (l ++ [c]) = W (downW W z l * 10 - ((c.toNat : Int) - 48))
  | [], _ => rfl
  | _ :: l, _ => downW_snoc W c l _
def isDec (c : UInt8) : Bool := decide (48 ≤ c.toNat ∧ c.toNat ≤ 57)
theorem numP_shape {s : List UInt8} {o : Nat} (ho : (s.head? = some 45 ∧ o = 1) ∨ (s.head? ≠ some 45 ∧ o = 0)) {v : Int} (h : numP s = some v) :
    (s.drop o).length ≠ 0 ∧ (s.drop o).length ≤ 19 ∧ (s.drop o).all isDec = true ∧ downW IntKind.i64.wrap 0 (s.drop o) = -(v.natAbs : Int) ∧ (o = 1 → v < 0) ∧ (o = 0 → 0 ≤ v) := by
  obtain ⟨hi, rfl⟩ := numP_some.1 h
  have hi' := hi
  unfold inI at hi'
  have key : ∀ N : Nat, N ≤ 9223372036854775808 → (digs 10 64 N).length ≠ 0 ∧ (digs 10 64 N).length ≤ 19 ∧ (digs 10 64 N).all isDec = true ∧ downW IntKind.i64.wrap 0 (digs 10 64 N) = -(N : Int) := fun N hN => by
    refine ⟨?_, digs19 N hN, ?_, downW_digs _ wrap_id N hN⟩
    · intro h
      exact absurd (List.eq_nil_of_length_eq_zero h) (digs_ne _ _ _ (by omega))
    · rw [List.all_eq_true]
      intro c hc
      have := digs_dig N hN c hc
      simp [isDec, this]
  by_cases hn : v < 0
  · have e : numL v = 45 :: digs 10 64 (-v).toNat := by unfold numL; rw [if_pos hn]
    rw [e] at ho ⊢
    rcases ho with ⟨_, rfl⟩ | ⟨h1, _⟩
    · obtain ⟨k1, k2, k3, k4⟩ := key (-v).toNat (by omega)
      rw [List.drop_succ_cons, List.drop_zero]
      exact ⟨k1, k2, k3, by rw [k4]; omega, fun _ => hn, fun h => absurd h (by omega)⟩
    · exact absurd rfl h1
  · have e : numL v = digs 10 64 v.toNat := by unfold numL; rw [if_neg hn]
    rw [e] at ho ⊢
    rcases ho with ⟨h1, _⟩ | ⟨_, rfl⟩
    · exact absurd h1 (digs_head _ (by omega))
    · obtain ⟨k1, k2, k3, k4⟩ := key v.toNat (by omega)
      rw [List.drop_zero]
      exact ⟨k1, k2, k3, by rw [k4]; omega, (fun h => absurd h (by omega)), fun _ => by omega⟩
theorem isSome_test {s : ByteArray} {n : Int} (hn : inI n) (h : ∀ v, numP s.data.toList = some v → n = v) : (numP s.data.toList).isSome = ((⟨(numL n).toArray⟩ : ByteArray).toList == s.toList) := by
  rw [ByteArray.toList_eq, ByteArray.toList_eq]
  cases hp : numP s.data.toList with
  | none =>
    have : ¬ numL n = s.data.toList := fun e => by rw [numP_some.2 ⟨hn, e⟩] at hp; cases hp
    symm
    simpa using this
  | some v =>
    obtain rfl := h v hp
    have := (numP_some.1 hp).2
    simp [this]
theorem u8_int (c d : UInt8) : ((c.toNat : Int) == (d.toNat : Int)) = (c == d) := by
  rw [Bool.eq_iff_iff]
  simp only [beq_iff_eq]
  constructor
  · intro h; exact UInt8.toNat_inj.1 (by omega)
  · rintro rfl; rfl
set_option maxHeartbeats 4000000 in
theorem rnumber_any (s : ByteArray) (hs : s.size ≤ 1000000000) (w : World) :
    Calls Try.prog 61 #[.string s] w fun e w' => ∃ n, inI n ∧ e = .returned (.tuple #[.int .i64 n, .bool (numP s.data.toList).isSome]) ∧ (∀ v, numP s.data.toList = some v → n = v) ∧ Below w.heap.size w w' := by
  obtain ⟨l, hl⟩ : ∃ l, s.data.toList = l := ⟨_, rfl⟩
  have hll : l.length = s.size := by rw [← hl, data_len]
  by_cases h0 : s.size = 0
  · have hs0 : s = ⟨#[]⟩ := bytes_inj (by rw [hl]; exact List.eq_nil_of_length_eq_zero (by omega))
    subst hs0
    have hN : numP (⟨#[]⟩ : ByteArray).data.toList = none := by decide +kernel
    rw [hN]
    clear hN hl hll h0 hs
    go_enter Try.func61, Try.ntmps61
    go_wp2
    go_ret2
    exact ⟨0, by decide, rfl, (fun v h => nomatch h), Below.refl _ _⟩
  · obtain ⟨c, hc⟩ : ∃ c, l[0]? = some c := ⟨_, List.getElem?_eq_getElem (by omega)⟩
    have h0L : 0 < s.size := by omega
    have hat0 : s[0]'h0L = c := by
      have h1 := get_data s 0 (by omega)
      rw [hl, hc] at h1
      exact (Option.some.inj h1).symm
    have hhd : l.head? = some c := by rw [List.head?_eq_getElem?]; exact hc
    by_cases h45 : c = 45
    · subst h45
      have hsh := fun v (h : numP l = some v) => numP_shape (s := l) (o := 1) (.inl ⟨hhd, rfl⟩) h
      obtain ⟨r, hr⟩ : ∃ r, l.drop 1 = r := ⟨_, rfl⟩
      have hrl : r.length + 1 = s.size := by rw [← hr, List.length_drop]; omega
      rw [hr] at hsh
      have HSh := Lib.hid hsh
      have Hr := Lib.hid hr
      have Hl := Lib.hid hl
      clear hsh hr hc hhd
      rw [hl]
      by_cases hsz : r.length = 0 ∨ 19 < r.length
      · have hN : numP l = none := by
          cases hp : numP l with
          | none => rfl
          | some v =>
            obtain ⟨k1, k2, _⟩ := HSh.out v hp
            omega
        have HN := Lib.hid hN
        clear hN HSh hl hll
        rcases hsz with h1 | h1
        · have h1b : ((1 : Int) == (s.size : Int)) = true := by rw [beq_iff_eq]; omega
          go_enter Try.func61, Try.ntmps61
          go_wp2
          go_ret2
          rw [HN.out]
          exact ⟨0, by decide, rfl, (fun v h => nomatch h), Below.refl _ _⟩
        · have h1b : ((1 : Int) == (s.size : Int)) = false := by rw [beq_eq_false_iff_ne]; omega
          have h1I : (19 : Int) < (s.size : Int) - 1 := by omega
          go_enter Try.func61, Try.ntmps61
          go_wp2
          go_ret2
          rw [HN.out]
          exact ⟨0, by decide, rfl, (fun v h => nomatch h), Below.refl _ _⟩
      · have h1b : ((1 : Int) == (s.size : Int)) = false := by rw [beq_eq_false_iff_ne]; omega
        have h1I : (s.size : Int) - 1 ≤ 19 := by omega
        have h20 : s.size ≤ 20 := by omega
        clear hl hll hsz
        go_enter Try.func61, Try.ntmps61
        go_wp2
        go_loopw [5, 6] (fun i n wr => ∃ (k : Nat) (z : Int), 1 ≤ k ∧ k ≤ s.size ∧ i = .int .i64 k ∧ n = .int .i64 z ∧ inI z ∧ z = downW IntKind.i64.wrap 0 (r.take (k - 1)) ∧ (r.take (k - 1)).all isDec = true ∧ wr = w) (fun i _ _ => s.size - (intOf i).toNat)
        case atStart => exact ⟨1, 0, by omega, by omega, rfl, rfl, by decide, rfl, rfl, rfl⟩
        case round =>
          obtain ⟨k, z, hk0, hk, rfl, rfl, hz, hzd, hall, rfl⟩ := hrel
          have Hz := Lib.hid hz
          have Hzd := Lib.hid hzd
          have Hall := Lib.hid hall
          clear hz hzd hall
          by_cases hlt : k < s.size
          · obtain ⟨x, hx⟩ : ∃ x, r[k - 1]? = some x := ⟨_, List.getElem?_eq_getElem (by omega)⟩
            have hat : s[k] = x := by
              have h1 := get_data s k hlt
              rw [Hl.out] at h1
              have h2 := hx
              rw [← Hr.out, List.getElem?_drop, show 1 + (k - 1) = k by omega, h1] at h2
              exact Option.some.inj h2
            have hx255 : (x.toNat : Int) ≤ 255 := by have := x.toNat_lt; omega
            by_cases hd : 48 ≤ x.toNat ∧ x.toNat ≤ 57
            · obtain ⟨d1, d2⟩ := hd
              have hsn : r.take (k + 1 - 1) = r.take (k - 1) ++ [x] := by rw [show k + 1 - 1 = (k - 1) + 1 by omega, List.take_add_one, hx]; rfl
              obtain ⟨a, ha⟩ : ∃ a, IntKind.i64.wrap (z * 10) = a := ⟨_, rfl⟩
              obtain ⟨b, hb⟩ : ∃ b, IntKind.i64.wrap (a - ((x.toNat : Int) - 48)) = b := ⟨_, rfl⟩
              have hbi : inI b := by rw [← hb]; exact wrap_in _
              have hbd : b = downW IntKind.i64.wrap 0 (r.take (k + 1 - 1)) := by rw [hsn, downW_snoc, ← Hzd.out, ← hb, ← ha, wrap_two]
              have hal : (r.take (k + 1 - 1)).all isDec = true := by rw [hsn, List.all_append, Hall.out]; simp [isDec, d1, d2]
              have Hbi := Lib.hid hbi
              have Hbd := Lib.hid hbd
              have Hal := Lib.hid hal
              have d1I : (48 : Int) ≤ (x.toNat : Int) := by omega
              have d2I : (x.toNat : Int) ≤ (57 : Int) := by omega
              clear hsn hbi hbd hal hx d1 d2
              go_wp2
              go_roundw
              case rel => exact ⟨k + 1, b, by omega, by omega, by go_num, rfl, Hbi.out, Hbd.out, Hal.out, by trivial⟩
              case measure => simp [intOf]; omega
            · have hN : numP l = none := by
                cases hp : numP l with
                | none => rfl
                | some v =>
                  obtain ⟨_, _, k3, _⟩ := HSh.out v hp
                  have := List.all_eq_true.1 k3 x (List.mem_of_getElem? hx)
                  unfold isDec at this
                  exact absurd (of_decide_eq_true this) hd
              have HN := Lib.hid hN
              have hq : (x.toNat : Int) < 48 ∨ (48 ≤ (x.toNat : Int) ∧ (57 : Int) < (x.toNat : Int)) := by omega
              clear hN hx hd
              rcases hq with h1 | ⟨h1, h2⟩
              all_goals
                go_wp2
                go_ret2
                rw [HN.out]
                exact ⟨0, by decide, rfl, (fun v h => nomatch h), Below.refl _ _⟩
          · obtain rfl : k = s.size := by omega
            have hzr := Hzd.out
            rw [List.take_of_length_le (by omega)] at hzr
            have hyi : inI z := Hz.out
            have hyv : ∀ v, numP l = some v → z = v := fun v h => by
              obtain ⟨_, _, _, k4, k5, _⟩ := HSh.out v h
              have k7 := k5 (by trivial)
              rw [hzr, k4]
              omega
            have hyi2 := hyi
            unfold inI at hyi2
            have DG := Lib.hid (fun w => refDigits_any z hyi2.1 hyi2.2 w)
            have hse := isSome_test (s := s) hyi (by rw [Hl.out]; exact hyv)
            rw [Hl.out] at hse
            have Hse := Lib.hid hse
            have Hyi := Lib.hid hyi
            have Hyv := Lib.hid hyv
            clear hzr hyi hyv hyi2 hse
            generalize (⟨(numL z).toArray⟩ : ByteArray) = X at *
            go_wp2_with (go_at_call 40; refine (DG.out _).mono ?_; rintro e w2 ⟨rfl, hb⟩)
            go_ret2
            rw [Hse.out]
            exact ⟨z, Hyi.out, rfl, Hyv.out, hb⟩
    · have e45 : ((c.toNat : Int) == 45) = false := by rw [show (45 : Int) = ((45 : UInt8).toNat : Int) from rfl, u8_int]; simpa using h45
      have hsh := fun v (h : numP l = some v) => numP_shape (s := l) (o := 0) (.inr ⟨by rw [hhd]; exact fun e => h45 (Option.some.inj e), rfl⟩) h
      obtain ⟨r, hr⟩ : ∃ r, l.drop 0 = r := ⟨_, rfl⟩
      have hrl : r.length + 0 = s.size := by rw [← hr, List.length_drop]; omega
      rw [hr] at hsh
      have HSh := Lib.hid hsh
      have Hr := Lib.hid hr
      have Hl := Lib.hid hl
      clear hsh hr hc hhd
      rw [hl]
      by_cases hsz : r.length = 0 ∨ 19 < r.length
      · have hN : numP l = none := by
          cases hp : numP l with
          | none => rfl
          | some v =>
            obtain ⟨k1, k2, _⟩ := HSh.out v hp
            omega
        have HN := Lib.hid hN
        clear hN HSh hl hll
        rcases hsz with h1 | h1
        · omega
        · have h1b : ((0 : Int) == (s.size : Int)) = false := by rw [beq_eq_false_iff_ne]; omega
          have h1I : (19 : Int) < (s.size : Int) - 0 := by omega
          go_enter Try.func61, Try.ntmps61
          go_wp2
          go_ret2
          rw [HN.out]
          exact ⟨0, by decide, rfl, (fun v h => nomatch h), Below.refl _ _⟩
      · have h1b : ((0 : Int) == (s.size : Int)) = false := by rw [beq_eq_false_iff_ne]; omega
        have h1I : (s.size : Int) - 0 ≤ 19 := by omega
        have h20 : s.size ≤ 20 := by omega
        clear hl hll hsz
        go_enter Try.func61, Try.ntmps61
        go_wp2
        go_loopw [5, 6] (fun i n wr => ∃ (k : Nat) (z : Int), 0 ≤ k ∧ k ≤ s.size ∧ i = .int .i64 k ∧ n = .int .i64 z ∧ inI z ∧ z = downW IntKind.i64.wrap 0 (r.take (k - 0)) ∧ (r.take (k - 0)).all isDec = true ∧ wr = w) (fun i _ _ => s.size - (intOf i).toNat)
        case atStart => exact ⟨0, 0, by omega, by omega, rfl, rfl, by decide, rfl, rfl, rfl⟩
        case round =>
          obtain ⟨k, z, hk0, hk, rfl, rfl, hz, hzd, hall, rfl⟩ := hrel
          have Hz := Lib.hid hz
          have Hzd := Lib.hid hzd
          have Hall := Lib.hid hall
          clear hz hzd hall
          by_cases hlt : k < s.size
          · obtain ⟨x, hx⟩ : ∃ x, r[k - 0]? = some x := ⟨_, List.getElem?_eq_getElem (by omega)⟩
            have hat : s[k] = x := by
              have h1 := get_data s k hlt
              rw [Hl.out] at h1
              have h2 := hx
              rw [← Hr.out, List.getElem?_drop, show 0 + (k - 0) = k by omega, h1] at h2
              exact Option.some.inj h2
            have hx255 : (x.toNat : Int) ≤ 255 := by have := x.toNat_lt; omega
            by_cases hd : 48 ≤ x.toNat ∧ x.toNat ≤ 57
            · obtain ⟨d1, d2⟩ := hd
              have hsn : r.take (k + 1 - 0) = r.take (k - 0) ++ [x] := by rw [show k + 1 - 0 = (k - 0) + 1 by omega, List.take_add_one, hx]; rfl
              obtain ⟨a, ha⟩ : ∃ a, IntKind.i64.wrap (z * 10) = a := ⟨_, rfl⟩
              obtain ⟨b, hb⟩ : ∃ b, IntKind.i64.wrap (a - ((x.toNat : Int) - 48)) = b := ⟨_, rfl⟩
              have hbi : inI b := by rw [← hb]; exact wrap_in _
              have hbd : b = downW IntKind.i64.wrap 0 (r.take (k + 1 - 0)) := by rw [hsn, downW_snoc, ← Hzd.out, ← hb, ← ha, wrap_two]
              have hal : (r.take (k + 1 - 0)).all isDec = true := by rw [hsn, List.all_append, Hall.out]; simp [isDec, d1, d2]
              have Hbi := Lib.hid hbi
              have Hbd := Lib.hid hbd
              have Hal := Lib.hid hal
              have d1I : (48 : Int) ≤ (x.toNat : Int) := by omega
              have d2I : (x.toNat : Int) ≤ (57 : Int) := by omega
              clear hsn hbi hbd hal hx d1 d2
              go_wp2
              go_roundw
              case rel => exact ⟨k + 1, b, by omega, by omega, by go_num, rfl, Hbi.out, Hbd.out, Hal.out, by trivial⟩
              case measure => simp [intOf]; omega
            · have hN : numP l = none := by
                cases hp : numP l with
                | none => rfl
                | some v =>
                  obtain ⟨_, _, k3, _⟩ := HSh.out v hp
                  have := List.all_eq_true.1 k3 x (List.mem_of_getElem? hx)
                  unfold isDec at this
                  exact absurd (of_decide_eq_true this) hd
              have HN := Lib.hid hN
              have hq : (x.toNat : Int) < 48 ∨ (48 ≤ (x.toNat : Int) ∧ (57 : Int) < (x.toNat : Int)) := by omega
              clear hN hx hd
              rcases hq with h1 | ⟨h1, h2⟩
              all_goals
                go_wp2
                go_ret2
                rw [HN.out]
                exact ⟨0, by decide, rfl, (fun v h => nomatch h), Below.refl _ _⟩
          · obtain rfl : k = s.size := by omega
            have hzr := Hzd.out
            rw [List.take_of_length_le (by omega)] at hzr
            obtain ⟨y, hy⟩ : ∃ y, IntKind.i64.wrap (-z) = y := ⟨_, rfl⟩
            have hyi : inI y := by rw [← hy]; exact wrap_in _
            have hyv : ∀ v, numP l = some v → y = v := fun v h => by
              obtain ⟨_, _, _, k4, _, k6⟩ := HSh.out v h
              have k7 := k6 (by trivial)
              have k8 := (numP_some.1 h).1
              rw [← hy, hzr, k4, show -(-(v.natAbs : Int)) = v by omega]
              exact wrap_id v k8
            have hyi2 := hyi
            unfold inI at hyi2
            have DG := Lib.hid (fun w => refDigits_any y hyi2.1 hyi2.2 w)
            have hse := isSome_test (s := s) hyi (by rw [Hl.out]; exact hyv)
            rw [Hl.out] at hse
            have Hse := Lib.hid hse
            have Hyi := Lib.hid hyi
            have Hyv := Lib.hid hyv
            clear hzr hyi hyv hyi2 hse
            generalize (⟨(numL y).toArray⟩ : ByteArray) = X at *
            go_wp2_with (go_at_call 40; refine (DG.out _).mono ?_; rintro e w2 ⟨rfl, hb⟩)
            go_ret2
            rw [Hse.out]
            exact ⟨y, Hyi.out, rfl, Hyv.out, hb⟩
end Go.Proofs.Ytmcioedmjcbfbaa
