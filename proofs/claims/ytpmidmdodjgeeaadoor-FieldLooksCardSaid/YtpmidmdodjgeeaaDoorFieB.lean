/- Walks of layer 3: Without, of names of any length. Condition: at most 10^6 fields and names, the fields' texts within 10^9 octets. -/
import Derived.Test.YtpmidmdodjgeeaaDoorFie9
namespace Go.Proofs.YtpmidmdodjgeeaaDoor
open Go.RowKit IH
set_option maxRecDepth 100000
set_option maxHeartbeats 1000000 in
theorem Lower_big (s : ByteArray) (hs : s.size ≤ 9223372036854775807) (w : World) :
    Calls Tryd.prog 73 #[.string s] w fun e w' => e = .returned (.string ⟨(lower s.data.toList).toArray⟩) ∧ Below w.heap.size w w' := by
  have hcv := Lib.run_convert_string_bytes (P := Tryd.prog) w 9 22 5 s Tryd.underlying9 Tryd.underlying22 Tryd.underlying5
  have hrow := RowAt.bytes w 5 s
  have hbel := below_bytesWorld w 5 s
  have hcap := Nat.le_trans (Nat.le_refl _) (grownCap_le_maxLen w s.size 0 5 (by simp only [maxLen]; omega))
  have hcap2 := grownCap_ge w s.size 0 5
  generalize Lib.bytesWorld w 5 s = W at *
  generalize grownCap w s.size 0 5 = C at *
  go_enter Tryd.func73, Tryd.ntmps73
  go_wp2
  clear hcv
  go_loopw [10] (fun i wr => ∃ k : Nat, k ≤ s.size ∧ i = .int .i64 k ∧ RowAt wr w.heap.size 5 (bytesV (lowTo s.data.toList k)) ∧ Below w.heap.size w wr) (fun i _ => s.size - (intOf i).toNat)
  case atStart => exact ⟨0, by omega, rfl, by simpa [lowTo] using hrow, hbel⟩
  case round =>
    obtain ⟨k, hk, rfl, hrow, hbel⟩ := hrel
    have Hrow := Lib.hid hrow; clear hrow
    by_cases hlt : k < s.size
    · obtain ⟨c, hc⟩ : ∃ c, s.data.toList[k]? = some c := ⟨_, get_data s k hlt⟩
      have hcell : wr.cell? ⟨w.heap.size, k, none⟩ = some (.int .u8 c.toNat) := Hrow.out.cell (by rw [bytesV_get, lowTo_get _ _ _ hc]; rfl)
      have hfr : wr.frozen? ⟨w.heap.size, k, none⟩ = false := Hrow.out.frozen (by rw [bytesV_length, lowTo_length, data_len]; exact hlt)
      have Hc := Lib.hid hc; clear hc
      have hq : c.toNat < 65 ∨ (65 ≤ c.toNat ∧ c.toNat ≤ 90) ∨ 90 < c.toNat := by omega
      have hc255 : c.toNat ≤ 255 := by have := c.toNat_lt; omega
      rcases hq with h1 | ⟨h1, h2⟩ | h1
      · go_wp2
        go_roundw
        case rel =>
          refine ⟨k + 1, by omega, by go_num, ?_, hbel⟩
          rw [lowTo_same _ _ _ Hc.out (by unfold lowerC; rw [if_neg (by simp; omega)])]
          exact Hrow.out
        case measure => simp [intOf]; omega
      · go_wp2
        go_roundw
        case rel =>
          refine ⟨k + 1, by omega, by go_num, ?_, hbel.setCell (Nat.le_refl _) _⟩
          have e : Value.int .u8 ((c.toNat : Int) + 97 - 65) = byteV (lowerC c) := by
            unfold lowerC byteV
            rw [if_pos (by simp; omega)]
            have : (c + 32).toNat = c.toNat + 32 := by rw [UInt8.toNat_add]; simp; omega
            rw [this]; congr 1; omega
          rw [e, lowTo_succ _ _ _ Hc.out, ← bytesV_set]
          exact Hrow.out.set_ (by rw [bytesV_length, lowTo_length, data_len]; exact hlt) _
        case measure => simp [intOf]; omega
      · go_wp2
        go_roundw
        case rel =>
          refine ⟨k + 1, by omega, by go_num, ?_, hbel⟩
          rw [lowTo_same _ _ _ Hc.out (by unfold lowerC; rw [if_neg (by simp; omega)])]
          exact Hrow.out
        case measure => simp [intOf]; omega
    · have e : lowTo s.data.toList k = lower s.data.toList := by
        unfold lowTo lower
        rw [List.take_of_length_le (by rw [data_len]; omega), List.drop_eq_nil_of_le (by rw [data_len]; omega), List.append_nil]
      have hsl := Hrow.out.slice (size := 1) (n := s.size) (c := C) (by rw [bytesV_length, lowTo_length, data_len, Nat.mul_one]) hcap2 hcap
      rw [e] at hsl
      have hcs := run_string_of (P := Tryd.prog) hsl 22 9 5 Tryd.underlying22 Tryd.underlying5 Tryd.underlying9
      clear e hsl
      go_wp2
      go_ret
      exact ⟨rfl, hbel⟩
theorem is_big (f : Fld) (s : ByteArray) (h1 : f.1.length ≤ 1000000000) (hs : s.size ≤ 9223372036854775807) (w : World) :
    Calls Tryd.prog 44 #[.agg #[.string ⟨f.1.toArray⟩, .string ⟨f.2.toArray⟩], .string s] w fun e w' => e = .returned (.bool (isN f s.data.toList)) ∧ Below w.heap.size w w' := by
  have L1 : ∀ w, Calls Tryd.prog 73 #[.string ⟨f.1.toArray⟩] w fun e w' => e = .returned (.string ⟨(lower f.1).toArray⟩) ∧ Below w.heap.size w w' := fun w => Lower_any ⟨f.1.toArray⟩ (by rw [size_mk]; exact h1) w
  have L2 := Lower_big s hs
  have e : isN f s.data.toList = ((⟨(lower f.1).toArray⟩ : ByteArray).toList == (⟨(lower s.data.toList).toArray⟩ : ByteArray).toList) := by
    rw [ByteArray.toList_eq, ByteArray.toList_eq]; rfl
  rw [e]
  generalize (⟨(lower f.1).toArray⟩ : ByteArray) = X1 at *
  generalize (⟨(lower s.data.toList).toArray⟩ : ByteArray) = X2 at *
  generalize (⟨f.1.toArray⟩ : ByteArray) = Y1 at *
  generalize (⟨f.2.toArray⟩ : ByteArray) = Y2 at *
  replace L1 := Lib.hid L1
  replace L2 := Lib.hid L2
  clear e h1 hs
  go_enter Tryd.func44, Tryd.ntmps44
  go_wp2_with (first
    | (go_at_call 73; (with_reducible refine (L1.out _).mono ?_); rintro e w2 ⟨rfl, hb2⟩; have B2 := Lib.hid hb2; clear hb2)
    | (go_at_call 73; (with_reducible refine (L2.out _).mono ?_); rintro e w3 ⟨rfl, hb3⟩; have B3 := Lib.hid (below_step B2.out hb3); clear hb3))
  go_ret
  exact ⟨rfl, below_al_step B3.out⟩
theorem without11_big (f : Fld) (m : ByteArray) (g : Nat) (h1 : f.1.length ≤ 1000000000) (hm : m.size ≤ 9223372036854775807) (w : World) (c0 : w.cell? ⟨g, 0, none⟩ = some (.string ⟨f.1.toArray⟩)) (c1 : w.cell? ⟨g, 1, none⟩ = some (.string ⟨f.2.toArray⟩)) :
    Calls Tryd.prog 49 #[.string m, .pointer (some ⟨g, 0, none⟩)] w fun e w' => e = .returned (.bool (isN f m.data.toList)) ∧ Below w.heap.size w w' := by
  have IS := is_big f m h1 hm
  generalize isN f m.data.toList = r at *
  generalize (⟨f.1.toArray⟩ : ByteArray) = X at *
  generalize (⟨f.2.toArray⟩ : ByteArray) = Y at *
  replace IS := Lib.hid IS
  clear h1 hm
  go_enter Tryd.func49, Tryd.ntmps49
  go_wp2_with (go_at_call 44; (with_reducible refine (IS.out _).mono ?_); rintro e w2 ⟨rfl, hb2⟩)
  go_ret
  exact ⟨rfl, hb2⟩
set_option maxHeartbeats 4000000 in
theorem IndexNames_big (A : Option Addr) (n c : Nat) (N : List (List UInt8)) (f : Fld) (g : Nat) (w : World) (hin : SliceIn w w.heap.size 1 A n c (strsV N)) (hs : n ≤ 1000000) (hm : smallS 9223372036854775807 N) (h1 : f.1.length ≤ 1000000000) (hg : g < w.heap.size) (g0 : w.cell? ⟨g, 0, none⟩ = some (.string ⟨f.1.toArray⟩)) (g1 : w.cell? ⟨g, 1, none⟩ = some (.string ⟨f.2.toArray⟩)) :
    Calls Tryd.prog 74 #[.slice A n c, .func (.func 49) #[] #[.pointer (some ⟨g, 0, none⟩)]] w fun e w' => e = .returned (.int .i64 (fi (fun x => isN f x) N)) ∧ Below w.heap.size w w' := by
  have hL := str_count hin
  obtain ⟨p, hp⟩ : ∃ p : List UInt8 → Bool, (fun x => isN f x) = p := ⟨_, rfl⟩
  have hpf : ∀ x, isN f x = p x := fun f => by rw [← hp]
  rw [hp]
  have HPF := Lib.hid hpf
  clear hp hpf
  go_enter Tryd.func74, Tryd.ntmps74
  go_wp2
  go_loopw [8] (fun i wr => ∃ k : Nat, k ≤ n ∧ i = .int .i64 k ∧ (N.take k).any p = false ∧ Below w.heap.size w wr) (fun i _ => n - (intOf i).toNat)
  case atStart => exact ⟨0, by omega, rfl, rfl, Below.refl _ _⟩
  case round =>
    obtain ⟨k, hk, rfl, hno, hbel⟩ := hrel
    by_cases hlt : k < n
    · obtain ⟨x, hx⟩ : ∃ f, N[k]? = some f := ⟨_, List.getElem?_eq_getElem (by omega)⟩
      obtain ⟨b, off, rfl, hb, c0⟩ := str_at (hin.below hbel) hx
      have m1 : (⟨x.toArray⟩ : ByteArray).size ≤ 9223372036854775807 := by rw [size_mk]; exact hm x (List.mem_of_getElem? hx)
      have q0 := (hbel.cell (p := ⟨g, 0, none⟩) hg).trans g0
      have q1 := (hbel.cell (p := ⟨g, 1, none⟩) hg).trans g1
      have F1 := without11_big f ⟨x.toArray⟩ g h1 m1 wr q0 q1
      have e : isN f (⟨x.toArray⟩ : ByteArray).data.toList = p x := HPF.out x
      rw [e] at F1
      clear q0 q1 e
      cases hp : p x
      · have hnx := any_snoc hx hp hno
        rw [hp] at F1
        have HN := Lib.hid hnx
        replace F1 := Lib.hid F1
        clear hnx hx hno hp m1
        generalize (⟨x.toArray⟩ : ByteArray) = X at *
        go_wp2_with (go_at_call 49; refine F1.out.mono ?_; rintro e w2 ⟨rfl, hb2⟩)
        go_roundw
        case rel => exact ⟨k + 1, by omega, by go_num, HN.out, below_step hbel hb2⟩
        case measure => simp [intOf]; omega
      · have hfin := fi_hit hx hp hno
        rw [hp] at F1
        have HF := Lib.hid hfin
        replace F1 := Lib.hid F1
        clear hfin hx hno hp m1
        generalize (⟨x.toArray⟩ : ByteArray) = X at *
        go_wp2_with (go_at_call 49; refine F1.out.mono ?_; rintro e w2 ⟨rfl, hb2⟩)
        go_ret
        rw [HF.out]
        exact ⟨rfl, below_step hbel hb2⟩
    · obtain rfl : k = n := by omega
      rw [List.take_of_length_le (by omega)] at hno
      have HF := Lib.hid (fi_none hno)
      clear hno
      go_wp2
      go_ret
      rw [HF.out]
      exact ⟨rfl, hbel⟩
theorem ContainsNames_big (A : Option Addr) (n c : Nat) (N : List (List UInt8)) (f : Fld) (g : Nat) (w : World) (hin : SliceIn w w.heap.size 1 A n c (strsV N)) (hs : n ≤ 1000000) (hm : smallS 9223372036854775807 N) (h1 : f.1.length ≤ 1000000000) (hg : g < w.heap.size) (g0 : w.cell? ⟨g, 0, none⟩ = some (.string ⟨f.1.toArray⟩)) (g1 : w.cell? ⟨g, 1, none⟩ = some (.string ⟨f.2.toArray⟩)) :
    Calls Tryd.prog 48 #[.slice A n c, .func (.func 49) #[] #[.pointer (some ⟨g, 0, none⟩)]] w fun e w' => e = .returned (.bool (N.any fun x => isN f x)) ∧ Below w.heap.size w w' := by
  have I := IndexNames_big A n c N f g w hin hs hm h1 hg g0 g1
  rw [← fi_any]
  generalize fi (fun x => isN f x) N = i at *
  replace I := Lib.hid I
  clear hin hm g0 g1
  go_enter Tryd.func48, Tryd.ntmps48
  go_wp2_with (go_at_call 74; refine I.out.mono ?_; rintro e w2 ⟨rfl, hb⟩)
  go_ret
  exact ⟨rfl, hb⟩
theorem without1_big (f : Fld) (A : Option Addr) (m c : Nat) (N : List (List UInt8)) (gn : Nat) (w : World) (h1 : f.1.length ≤ 1000000000) (hgn : gn < w.heap.size) (cn : w.cell? ⟨gn, 0, none⟩ = some (.slice A m c)) (hin : SliceIn w w.heap.size 1 A m c (strsV N)) (hs : m ≤ 1000000) (hm : smallS 9223372036854775807 N) :
    Calls Tryd.prog 47 #[.agg #[.string ⟨f.1.toArray⟩, .string ⟨f.2.toArray⟩], .pointer (some ⟨gn, 0, none⟩)] w fun e w' => e = .returned (.bool (ofNames N f)) ∧ Below w.heap.size w w' := by
  have r := RowAt.new w 44 [.string ⟨f.1.toArray⟩, .string ⟨f.2.toArray⟩]
  have CN := ContainsNames_big A m c N f w.heap.size (w.alloc (.cells #[.string ⟨f.1.toArray⟩, .string ⟨f.2.toArray⟩] 44)) ((hin.alloc (Nat.le_refl _) _).more (by simp)) hs hm h1 (by simp) (r.cell (j := 0) rfl) (r.cell (j := 1) rfl)
  have d0 := (World.cell?_alloc_lt w (.cells #[.string ⟨f.1.toArray⟩, .string ⟨f.2.toArray⟩] 44) ⟨gn, 0, none⟩ hgn).trans cn
  unfold ofNames
  generalize (N.any fun x => isN f x) = b at *
  clear r hin hm cn h1
  generalize (⟨f.1.toArray⟩ : ByteArray) = X at *
  generalize (⟨f.2.toArray⟩ : ByteArray) = Y at *
  replace CN := Lib.hid CN
  go_enter Tryd.func47, Tryd.ntmps47
  go_wp2_with (go_at_call 48; refine CN.out.mono ?_; rintro e w2 ⟨rfl, hb2⟩)
  go_ret
  exact ⟨rfl, below_al_step hb2⟩
set_option maxHeartbeats 4000000 in
theorem IndexWithout_big (A : Option Addr) (n c : Nat) (L : List Fld) (A2 : Option Addr) (m c2 : Nat) (N : List (List UInt8)) (gn B : Nat) (w : World) (hin : SliceIn w w.heap.size 2 A n c (fldsV L)) (hs : n ≤ 1000000) (hm : smallF 1000000000 L)
    (hgn : gn < w.heap.size) (cn : w.cell? ⟨gn, 0, none⟩ = some (.slice A2 m c2)) (hB : B ≤ w.heap.size) (hinN : SliceIn w B 1 A2 m c2 (strsV N)) (hsN : m ≤ 1000000) (hmN : smallS 9223372036854775807 N) :
    Calls Tryd.prog 50 #[.slice A n c, .func (.func 47) #[] #[.pointer (some ⟨gn, 0, none⟩)]] w fun e w' => e = .returned (.int .i64 (fi (ofNames N) L)) ∧ Below w.heap.size w w' := by
  have hL := fld_count hin
  have HinN := Lib.hid hinN
  clear hinN
  go_enter Tryd.func50, Tryd.ntmps50
  go_wp2
  go_loopw [8] (fun i wr => ∃ k : Nat, k ≤ n ∧ i = .int .i64 k ∧ (L.take k).any (ofNames N) = false ∧ Below w.heap.size w wr) (fun i _ => n - (intOf i).toNat)
  case atStart => exact ⟨0, by omega, rfl, rfl, Below.refl _ _⟩
  case round =>
    obtain ⟨k, hk, rfl, hno, hbel⟩ := hrel
    by_cases hlt : k < n
    · obtain ⟨f, hf⟩ : ∃ f, L[k]? = some f := ⟨_, List.getElem?_eq_getElem (by omega)⟩
      obtain ⟨b, off, rfl, hb, c0, c1⟩ := fld_at (hin.below hbel) hf
      obtain ⟨m1, m2⟩ := smallF_get hm hf
      have F1 := without1_big f A2 m c2 N gn wr m1 (Nat.lt_of_lt_of_le hgn hbel.size) ((hbel.cell (p := ⟨gn, 0, none⟩) hgn).trans cn) ((HinN.out.below (hbel.mono hB)).more (Nat.le_trans hB hbel.size)) hsN hmN
      cases hp : ofNames N f
      · have hnx := any_snoc hf hp hno
        rw [hp] at F1
        have HN := Lib.hid hnx
        replace F1 := Lib.hid F1
        clear hnx hf hno hp m1 m2
        generalize (⟨f.1.toArray⟩ : ByteArray) = X at *
        generalize (⟨f.2.toArray⟩ : ByteArray) = Y at *
        go_wp2_with (go_at_call 47; refine F1.out.mono ?_; rintro e w2 ⟨rfl, hb2⟩)
        go_roundw
        case rel => exact ⟨k + 1, by omega, by go_num, HN.out, below_step hbel hb2⟩
        case measure => simp [intOf]; omega
      · have hfin := fi_hit hf hp hno
        rw [hp] at F1
        have HF := Lib.hid hfin
        replace F1 := Lib.hid F1
        clear hfin hf hno hp m1 m2
        generalize (⟨f.1.toArray⟩ : ByteArray) = X at *
        generalize (⟨f.2.toArray⟩ : ByteArray) = Y at *
        go_wp2_with (go_at_call 47; refine F1.out.mono ?_; rintro e w2 ⟨rfl, hb2⟩)
        go_ret
        rw [HF.out]
        exact ⟨rfl, below_step hbel hb2⟩
    · obtain rfl : k = n := by omega
      rw [List.take_of_length_le (by omega)] at hno
      have HF := Lib.hid (fi_none hno)
      clear hno
      go_wp2
      go_ret
      rw [HF.out]
      exact ⟨rfl, hbel⟩
set_option maxHeartbeats 8000000 in
theorem delete_big (base : Nat) (v : Value) (L : List Fld) (A2 : Option Addr) (m c2 : Nat) (N : List (List UInt8)) (gn : Nat) (w : World) (hbase : base ≤ w.heap.size) (hrow : w.ownsRow base 44 2 v L.length (fldsV L)) (hs : L.length ≤ 1000000) (hm : smallF 1000000000 L)
    (hgn : gn < base) (cn : w.cell? ⟨gn, 0, none⟩ = some (.slice A2 m c2)) (hinN : SliceIn w base 1 A2 m c2 (strsV N)) (hsN : m ≤ 1000000) (hmN : smallS 9223372036854775807 N) :
    Calls Tryd.prog 45 #[v, .func (.func 47) #[] #[.pointer (some ⟨gn, 0, none⟩)]] w fun e w' => ∃ v', e = .returned v' ∧ w'.ownsRow base 44 2 v' (withoutL L N).length (fldsV (withoutL L N)) ∧ Below base w w' := by
  obtain ⟨A, c, rfl, hsl⟩ := own_slice hrow
  have IX := IndexWithout_big A L.length c L A2 m c2 N gn base w hsl hs hm (Nat.lt_of_lt_of_le hgn hbase) cn hbase hinN hsN hmN
  rcases fi_cases (ofNames N) L with ⟨h1, h2⟩ | ⟨i, f0, h1, h2, h3, h4⟩
  · rw [h1] at IX
    rw [withoutN_none L N h2]
    have Hrow := Lib.hid hrow
    replace IX := Lib.hid IX
    clear h1 h2 hrow hsl hinN hm hmN cn
    go_enter Tryd.func45, Tryd.ntmps45
    go_wp2_with (go_at_call 50; refine IX.out.mono ?_; rintro e w2 ⟨rfl, hb2⟩)
    go_ret
    exact ⟨_, rfl, own_below Hrow.out hb2, hb2.mono hbase⟩
  · have hil : i < L.length := (List.getElem?_eq_some_iff.1 h2).1
    have hst : L.take i = withoutL (L.take (i + 1)) N := by
      rw [withoutN_snoc L N i f0 h2, if_pos h3, List.append_nil, withoutN_none _ N h4]
    obtain ⟨g, cap, hv, hgb⟩ : ∃ g cap, A = some ⟨g, 0, none⟩ ∧ c = cap ∧ base ≤ g := by
      rcases hrow.2 with ⟨h', h0⟩ | ⟨g, cap, cur, h', hb, _⟩
      · omega
      · simp only [Value.slice.injEq, true_and] at h'
        exact ⟨g, cap, h'.1, h'.2, hb⟩
    obtain ⟨rfl, hgb⟩ := hgb
    subst hv
    obtain ⟨n, hn⟩ : ∃ n, L.length = n := ⟨_, rfl⟩
    rw [hn] at IX hs hil hrow hsl
    rw [h1] at IX
    have Hrow := Lib.hid hrow
    have Hst := Lib.hid hst
    have Hn := Lib.hid hn
    have HinN := Lib.hid hinN
    have Hcn := Lib.hid cn
    have hneq : ((i : Int) == -1) = false := by rw [beq_eq_false_iff_ne]; omega
    replace IX := Lib.hid IX
    rw [hn]
    clear h1 h2 h3 h4 hrow hsl hinN cn hst hn
    go_enter Tryd.func45, Tryd.ntmps45
    go_wp2_with (go_at_call 50; refine IX.out.mono ?_; rintro e w2 ⟨rfl, hb2⟩; have B2 := Lib.hid (hb2.mono hbase); have Hrow2 := Lib.hid (own_below Hrow.out hb2); clear hb2)
    go_loopw [5, 6] (fun a b wr => ∃ (I J : Nat) (M : List Fld), a = .int .i64 I ∧ b = .int .i64 J ∧ I < J ∧ J ≤ n ∧ M.length = n ∧ M.take I = withoutL (L.take J) N ∧ M.drop J = L.drop J ∧ wr.ownsRow base 44 2 (.slice (some ⟨g, 0, none⟩) n c) n (fldsV M) ∧ Below base w wr) (fun _ b _ => n - (intOf b).toNat)
    case atStart => exact ⟨i, i + 1, L, rfl, by go_num, by omega, by omega, Hn.out, Hst.out, rfl, Hrow2.out, B2.out⟩
    case round =>
      clear Hrow2 B2 Hrow Hst IX hil hneq
      obtain ⟨I, J, M, rfl, rfl, hIJ, hJ, hM, htk, hdr, hrow, hbel⟩ := hrel
      have Hrow := Lib.hid hrow
      have Htk := Lib.hid htk
      have Hdr := Lib.hid hdr
      have HM := Lib.hid hM
      clear hrow htk hdr hM
      by_cases hlt : J < n
      · obtain ⟨f, hf⟩ : ∃ f, L[J]? = some f := ⟨_, List.getElem?_eq_getElem (by rw [Hn.out]; omega)⟩
        have hfM : M[J]? = some f := by
          have := congrArg (·[0]?) Hdr.out
          simpa [List.getElem?_drop, hf] using this
        obtain ⟨b', off', e', hb', c0, c1⟩ := fld_at (SliceIn.of_own Hrow.out) hfM
        obtain ⟨rfl, rfl⟩ : g = b' ∧ 0 = off' := by simpa using e'
        rw [Nat.zero_add] at c0 c1
        obtain ⟨m1, m2⟩ := smallF_get hm hf
        have hbw := Nat.le_trans hbase hbel.size
        have F1 : Calls Tryd.prog 47 #[.agg #[.string ⟨f.1.toArray⟩, .string ⟨f.2.toArray⟩], .pointer (some ⟨gn, 0, none⟩)] (wr.alloc (.cells #[.string ⟨f.1.toArray⟩, .string ⟨f.2.toArray⟩] 44)) fun e w' => e = .returned (.bool (ofNames N f)) ∧ Below (wr.alloc (.cells #[.string ⟨f.1.toArray⟩, .string ⟨f.2.toArray⟩] 44)).heap.size (wr.alloc (.cells #[.string ⟨f.1.toArray⟩, .string ⟨f.2.toArray⟩] 44)) w' := by
          have hb3 := hbel.alloc hbw (.cells #[.string ⟨f.1.toArray⟩, .string ⟨f.2.toArray⟩] 44)
          exact without1_big f A2 m c2 N gn _ m1 (by simp; omega) ((hb3.cell (p := ⟨gn, 0, none⟩) hgn).trans Hcn.out) ((HinN.out.below hb3).more (by simp; omega)) hsN hmN
        have hsn := withoutN_snoc L N J f hf
        cases hp : ofNames N f
        · rw [hp, if_neg (by simp)] at hsn
          rw [hp] at F1
          have Hsn := Lib.hid hsn
          have Hset := Lib.hid (fldsV_set M I f)
          have HfM := Lib.hid hfM
          replace F1 := Lib.hid F1
          clear hsn hf hfM hp m1 m2 e'
          obtain ⟨X, hX⟩ : ∃ X : ByteArray, (⟨f.1.toArray⟩ : ByteArray) = X := ⟨_, rfl⟩
          obtain ⟨Y, hY⟩ : ∃ Y : ByteArray, (⟨f.2.toArray⟩ : ByteArray) = Y := ⟨_, rfl⟩
          rw [hX, hY] at F1 Hset
          rw [hX] at c0
          rw [hY] at c1
          clear hX hY
          go_wp2_with (go_at_call 47; refine F1.out.mono ?_; rintro e w3 ⟨rfl, hb3⟩; have d0 := new_cell hb3 (j := 0) rfl; have d1 := new_cell hb3 (j := 1) rfl; have R3 := Lib.hid (own_below (Hrow.out.alloc (.cells #[.string X, .string Y] 44)) hb3); have B3 := Lib.hid ((hbel.alloc hbw (.cells #[.string X, .string Y] 44)).trans (hb3.mono (by simp; omega))); clear hb3; obtain ⟨y0, e0⟩ := own_cell R3.out (I * 2) (by omega); have f0 := R3.out.frozenAt (I * 2); obtain ⟨y1, e1⟩ := own_cell (R3.out.stored (I * 2) (.string X)).1 (I * 2 + 1) (by omega); have f1 := (R3.out.stored (I * 2) (.string X)).1.frozenAt (I * 2 + 1))
          go_roundw
          case rel =>
            obtain ⟨q1, q2⟩ := set_two _ R3.out I (.string X) (.string Y)
            rw [Hset.out] at q1
            refine ⟨I + 1, J + 1, M.set I f, by go_num, by go_num, by omega, by omega, by rw [List.length_set]; exact HM.out, ?_, ?_, q1, B3.out.grown q2 (by have := B3.out.size; omega) (fun k hk => by injection hk with hk; omega)⟩
            · rw [Hsn.out, ← Htk.out]
              have : I < M.length := by rw [HM.out]; omega
              rw [List.take_succ_eq_append_getElem (by rw [List.length_set]; exact this), List.getElem_set_self, List.take_set, List.set_eq_of_length_le (by rw [List.length_take]; omega)]
            · have h5 := congrArg (List.drop 1) Hdr.out
              rw [List.drop_drop, List.drop_drop] at h5
              rw [List.drop_set, if_pos (by omega)]
              exact h5
          case measure => simp [intOf]; omega
        · rw [hp, if_pos rfl, List.append_nil] at hsn
          rw [hp] at F1
          have Hsn := Lib.hid hsn
          replace F1 := Lib.hid F1
          clear hsn hf hfM hp m1 m2 e'
          generalize (⟨f.1.toArray⟩ : ByteArray) = X at *
          generalize (⟨f.2.toArray⟩ : ByteArray) = Y at *
          go_wp2_with (go_at_call 47; refine F1.out.mono ?_; rintro e w3 ⟨rfl, hb3⟩; have R3 := Lib.hid (own_below (Hrow.out.alloc (.cells #[.string X, .string Y] 44)) hb3); have B3 := Lib.hid ((hbel.alloc hbw (.cells #[.string X, .string Y] 44)).trans (hb3.mono (by simp; omega))); clear hb3)
          go_roundw
          case rel =>
            refine ⟨I, J + 1, M, rfl, by go_num, by omega, by omega, HM.out, by rw [Hsn.out]; exact Htk.out, ?_, R3.out, B3.out⟩
            have h5 := congrArg (List.drop 1) Hdr.out
            rw [List.drop_drop, List.drop_drop] at h5
            exact h5
          case measure => simp [intOf]; omega
      · obtain rfl : J = n := by omega
        have e : L.take J = L := List.take_of_length_le (by rw [Hn.out]; omega)
        rw [e] at Htk
        have hnc : J ≤ c := by
          have := Hrow.out
          rcases this.2 with ⟨h', _⟩ | ⟨g', cap', cur, h', _, _, hnc, _⟩
          · cases h'
          · simp only [Value.slice.injEq, true_and] at h'
            omega
        clear e
        go_wp2_with (refine wpList_clear fld_ty fld_zero_one rfl _ rfl base g J c I (c - I) (fldsV M) rfl (by omega) Hrow.out ?_; intro w3 hown' hgr)
        go_ret
        have hk : (withoutL L N).length = I := by rw [← Htk.out, List.length_take, HM.out]; omega
        rw [hk, ← Htk.out, ← fldsV_take]
        exact ⟨_, rfl, hown', hbel.grown hgr (Nat.le_trans hbase hbel.size) (fun k hk => by injection hk with hk; omega)⟩
set_option maxHeartbeats 4000000 in
theorem Without_big (A : Option Addr) (n c : Nat) (L : List Fld) (A2 : Option Addr) (m c2 : Nat) (N : List (List UInt8)) (w : World) (hin : SliceIn w w.heap.size 2 A n c (fldsV L)) (hs : n ≤ 1000000) (hm : smallF 1000000000 L) (hinN : SliceIn w w.heap.size 1 A2 m c2 (strsV N)) (hsN : m ≤ 1000000) (hmN : smallS 9223372036854775807 N) :
    Calls Tryd.prog 19 #[.slice A n c, .slice A2 m c2] w fun e w' => ∃ v, e = .returned v ∧ w'.ownsRow w.heap.size 44 2 v (withoutL L N).length (fldsV (withoutL L N)) ∧ Below w.heap.size w w' := by
  have hL := fld_count hin
  have CL := clone_any A n c L (w.alloc (.cells #[.slice A2 m c2] 33)) ((hin.alloc (Nat.le_refl _) _).more (by simp)) hs
  have HN := Lib.hid (hinN.alloc (Nat.le_refl _) (.cells #[.slice A2 m c2] 33))
  replace CL := Lib.hid CL
  clear hin hinN
  go_enter Tryd.func19, Tryd.ntmps19
  go_wp2_with (first
    | (go_at_call 46; refine CL.out.mono ?_; rintro e w2 ⟨v, rfl, hrow, hb2⟩; have Hrow := Lib.hid hrow; have B2 := Lib.hid hb2; have cn := new_cell hb2 (j := 0) rfl; have HN2 := Lib.hid ((HN.out.below (hb2.mono (by simp))).more (B' := (w.alloc (.cells #[.slice A2 m c2] 33)).heap.size) (by simp)); have DL := Lib.hid (delete_big _ v L A2 m c2 N w.heap.size w2 hb2.size hrow (by omega) hm (by simp) cn HN2.out hsN hmN); clear hrow hb2 cn)
    | (go_at_call 45; refine DL.out.mono ?_; rintro e w3 ⟨v3, rfl, hrow3, hb3⟩))
  go_ret
  exact ⟨_, rfl, own_mono hrow3 (by simp), below_al_step (B2.out.trans hb3)⟩
end Go.Proofs.YtpmidmdodjgeeaaDoor
