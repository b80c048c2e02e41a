/- Walks of layer 3: the document's answer on a name's values, on fields without a name, on two lists; a name's only value. Condition: at most 10^6 fields, texts within 10^9 octets. -/
import Derived.Test.YtpmidmdodjgeeaaDoorFie4
import Derived.Laws.StructEq
namespace Go.Proofs.YtpmidmdodjgeeaaDoor
open Go.RowKit IH
set_option maxRecDepth 100000
theorem withoutL_snoc (L : List Fld) (s : List UInt8) (k : Nat) (f : Fld) (hk : L[k]? = some f) : withoutL (L.take (k + 1)) [s] = withoutL (L.take k) [s] ++ if isN f s = true then [] else [f] := by
  rw [without_one, without_one, List.take_add_one, hk, List.filter_append]
  cases h : isN f s <;> simp [h]
theorem lower1_any {P : Program} {fn : FuncId} (H : ∀ s : ByteArray, s.size ≤ 1000000000 → ∀ w, Calls P fn #[.string s] w fun e w' => e = .returned (.string ⟨(lower s.data.toList).toArray⟩) ∧ Below w.heap.size w w') (l : List UInt8) (hl : l.length ≤ 1000000000) (w : World) :
    Calls P fn #[.string ⟨l.toArray⟩] w fun e w' => e = .returned (.string ⟨(lower l).toArray⟩) ∧ Below w.heap.size w w' := H ⟨l.toArray⟩ (by rw [size_mk]; exact hl) w
theorem isN_beq (f : Fld) (s : List UInt8) : isN f s = ((⟨(lower f.1).toArray⟩ : ByteArray).toList == (⟨(lower s).toArray⟩ : ByteArray).toList) := by
  rw [ByteArray.toList_eq, ByteArray.toList_eq]; rfl
set_option maxHeartbeats 4000000 in
theorem refGet_any (A : Option Addr) (n c : Nat) (L : List Fld) (s : ByteArray) (w : World) (hin : SliceIn w w.heap.size 2 A n c (fldsV L)) (hs : n ≤ 1000000) (hm : smallF 1000000000 L) (hz : s.size ≤ 1000000000) :
    Calls Tryd.prog 24 #[.slice A n c, .string s] w fun e w' => ∃ v, e = .returned v ∧ w'.ownsRow w.heap.size 9 1 v (getL L s.data.toList).length (strsV (getL L s.data.toList)) ∧ Below w.heap.size w w' := by
  have hL := fld_count hin
  have L2 := refLower_any s hz
  obtain ⟨l, hl⟩ : ∃ l, s.data.toList = l := ⟨_, rfl⟩
  rw [hl] at L2
  rw [hl]
  obtain ⟨X2, hX2⟩ : ∃ X : ByteArray, (⟨(lower l).toArray⟩ : ByteArray) = X := ⟨_, rfl⟩
  rw [hX2] at L2
  replace L2 := Lib.hid L2
  have HX2 := Lib.hid hX2
  clear hl hX2
  go_enter Tryd.func24, Tryd.ntmps24
  go_wp2
  go_loopw [5, 6] (fun v i wr => ∃ k : Nat, k ≤ n ∧ i = .int .i64 k ∧ wr.ownsRow w.heap.size 9 1 v (getL (L.take k) l).length (strsV (getL (L.take k) l)) ∧ Below w.heap.size w wr) (fun _ i _ => n - (intOf i).toNat)
  case atStart => exact ⟨0, by omega, rfl, World.ownsRow_nil _ _ _ _, Below.refl _ _⟩
  case round =>
    obtain ⟨k, hk, rfl, hrow, hbel⟩ := hrel
    have Hrow := Lib.hid hrow; clear hrow
    by_cases hlt : k < n
    · obtain ⟨f, hf⟩ : ∃ f, L[k]? = some f := ⟨_, List.getElem?_eq_getElem (by omega)⟩
      obtain ⟨b, off, rfl, hb, c0, c1⟩ := fld_at (hin.below hbel) hf
      obtain ⟨m1, m2⟩ := smallF_get hm hf
      have L1 := lower1_any refLower_any f.1 m1
      have hsn := getL_snoc L l k f hf
      have hlen : (getL (L.take k) l).length ≤ 1000000 := by
        have h1 := get_length (L.take k) l
        have h2 := List.length_take_le k L
        omega
      have hq := isN_beq f l
      obtain ⟨X1, hX1⟩ : ∃ X : ByteArray, (⟨(lower f.1).toArray⟩ : ByteArray) = X := ⟨_, rfl⟩
      rw [hX1] at L1 hq
      rw [HX2.out] at hq
      obtain ⟨Z, hZ⟩ : ∃ X : ByteArray, (⟨f.1.toArray⟩ : ByteArray) = X := ⟨_, rfl⟩
      obtain ⟨Y, hY⟩ : ∃ Y : ByteArray, (⟨f.2.toArray⟩ : ByteArray) = Y := ⟨_, rfl⟩
      rw [hZ] at L1 c0
      rw [hY] at c1
      have HY := Lib.hid hY
      replace L1 := Lib.hid L1
      cases hp : isN f l
      · rw [hp, if_neg (by simp), List.append_nil] at hsn
        rw [hp] at hq
        have hq' := hq.symm
        have Hsn := Lib.hid hsn
        clear hsn hf hp m1 m2 hlen hX1 hZ hY hq
        go_wp2_with (first
          | (go_at_call 52; (with_reducible refine (L1.out _).mono ?_); rintro e w2 ⟨rfl, hb2⟩; have B2 := Lib.hid (below_step hbel hb2); have R2 := Lib.hid (own_below Hrow.out hb2); clear hb2)
          | (go_at_call 52; (with_reducible refine (L2.out _).mono ?_); rintro e w3 ⟨rfl, hb3⟩; have B3 := Lib.hid (below_step B2.out hb3); have R3 := Lib.hid (own_below R2.out hb3); clear hb3))
        go_roundw
        case rel => exact ⟨k + 1, by omega, by go_num, by rw [Hsn.out]; exact R3.out, B3.out⟩
        case measure => simp [intOf]; omega
      · rw [hp, if_pos rfl] at hsn
        rw [hp] at hq
        have hq' := hq.symm
        have Hsn := Lib.hid hsn
        clear hsn hf hp m1 m2 hX1 hZ hY hq
        go_wp2_with (first
          | (go_at_call 52; (with_reducible refine (L1.out _).mono ?_); rintro e w2 ⟨rfl, hb2⟩; have B2 := Lib.hid (below_step hbel hb2); have R2 := Lib.hid (own_below Hrow.out hb2); have c2 := (hb2.cell (p := ⟨b, off + k * 2 + 1, none⟩) (Nat.lt_of_lt_of_le hb hbel.size)).trans c1; clear hb2)
          | (go_at_call 52; (with_reducible refine (L2.out _).mono ?_); rintro e w3 ⟨rfl, hb3⟩; have B3 := Lib.hid (below_step B2.out hb3); have R3 := Lib.hid (own_below R2.out hb3); have c3 := (hb3.cell (p := ⟨b, off + k * 2 + 1, none⟩) (Nat.lt_of_lt_of_le hb B2.out.size)).trans c2; have hB3 := B3.out.size; clear hb3)
          | (at_builtin; refine wpList_app str_ty rfl _ _ rfl w.heap.size _ _ _ rfl R3.out 1 1 _ rfl (by rfl) (one1 _ rfl) (by omega) (by simp only [maxLen]; omega) hB3 ?_; intro v' w4 hown' hgr))
        go_roundw
        case rel =>
          refine ⟨k + 1, by omega, by go_num, ?_, B3.out.grown hgr hB3 (fun g hg => (R3.out.lt g hg).1)⟩
          rw [Hsn.out, strsV_append, List.length_append]
          rw [← HY.out] at hown'
          exact hown'
        case measure => simp [intOf]; omega
    · obtain rfl : k = n := by omega
      have e : L.take k = L := List.take_of_length_le (by omega)
      rw [e] at Hrow
      clear e
      go_wp2
      go_ret
      exact ⟨_, rfl, Hrow.out, hbel⟩
set_option maxHeartbeats 4000000 in
theorem refWithout_any (A : Option Addr) (n c : Nat) (L : List Fld) (s : ByteArray) (w : World) (hin : SliceIn w w.heap.size 2 A n c (fldsV L)) (hs : n ≤ 1000000) (hm : smallF 1000000000 L) (hz : s.size ≤ 1000000000) :
    Calls Tryd.prog 22 #[.slice A n c, .string s] w fun e w' => ∃ v, e = .returned v ∧ w'.ownsRow w.heap.size 44 2 v (withoutL L [s.data.toList]).length (fldsV (withoutL L [s.data.toList])) ∧ Below w.heap.size w w' := by
  have hL := fld_count hin
  have L2 := refLower_any s hz
  obtain ⟨l, hl⟩ : ∃ l, s.data.toList = l := ⟨_, rfl⟩
  rw [hl] at L2
  rw [hl]
  obtain ⟨X2, hX2⟩ : ∃ X : ByteArray, (⟨(lower l).toArray⟩ : ByteArray) = X := ⟨_, rfl⟩
  rw [hX2] at L2
  replace L2 := Lib.hid L2
  have HX2 := Lib.hid hX2
  clear hl hX2
  go_enter Tryd.func22, Tryd.ntmps22
  go_wp2
  go_loopw [5, 6] (fun v i wr => ∃ k : Nat, k ≤ n ∧ i = .int .i64 k ∧ wr.ownsRow w.heap.size 44 2 v (withoutL (L.take k) [l]).length (fldsV (withoutL (L.take k) [l])) ∧ Below w.heap.size w wr) (fun _ i _ => n - (intOf i).toNat)
  case atStart => exact ⟨0, by omega, rfl, World.ownsRow_nil _ _ _ _, Below.refl _ _⟩
  case round =>
    obtain ⟨k, hk, rfl, hrow, hbel⟩ := hrel
    have Hrow := Lib.hid hrow; clear hrow
    by_cases hlt : k < n
    · obtain ⟨f, hf⟩ : ∃ f, L[k]? = some f := ⟨_, List.getElem?_eq_getElem (by omega)⟩
      obtain ⟨b, off, rfl, hb, c0, c1⟩ := fld_at (hin.below hbel) hf
      obtain ⟨m1, m2⟩ := smallF_get hm hf
      have L1 := lower1_any refLower_any f.1 m1
      have hsn := withoutL_snoc L l k f hf
      have hlen : (withoutL (L.take k) [l]).length ≤ 1000000 := by
        have h1 := without_length_le (L.take k) [l]
        have h2 := List.length_take_le k L
        omega
      have hq := isN_beq f l
      obtain ⟨X1, hX1⟩ : ∃ X : ByteArray, (⟨(lower f.1).toArray⟩ : ByteArray) = X := ⟨_, rfl⟩
      rw [hX1] at L1 hq
      rw [HX2.out] at hq
      obtain ⟨Z, hZ⟩ : ∃ X : ByteArray, (⟨f.1.toArray⟩ : ByteArray) = X := ⟨_, rfl⟩
      obtain ⟨Y, hY⟩ : ∃ Y : ByteArray, (⟨f.2.toArray⟩ : ByteArray) = Y := ⟨_, rfl⟩
      rw [hZ] at L1 c0
      rw [hY] at c1
      have HF : Hid (fldsV [f] = [.string Z, .string Y]) := Lib.hid (by rw [← hZ, ← hY]; rfl)
      replace L1 := Lib.hid L1
      cases hp : isN f l
      · rw [hp, if_neg (by simp)] at hsn
        rw [hp] at hq
        have hq' := hq.symm
        have hq2 : (X1.toList != X2.toList) = true := by rw [bne, hq']; rfl
        have Hsn := Lib.hid hsn
        clear hsn hf hp m1 m2 hX1 hZ hY hq
        go_wp2_with (first
          | (go_at_call 52; (with_reducible refine (L1.out _).mono ?_); rintro e w2 ⟨rfl, hb2⟩; have B2 := Lib.hid (below_step hbel hb2); have R2 := Lib.hid (own_below Hrow.out hb2); have d2 := (hb2.cell (p := ⟨b, off + k * 2, none⟩) (Nat.lt_of_lt_of_le hb hbel.size)).trans c0; have c2 := (hb2.cell (p := ⟨b, off + k * 2 + 1, none⟩) (Nat.lt_of_lt_of_le hb hbel.size)).trans c1; clear hb2)
          | (go_at_call 52; (with_reducible refine (L2.out _).mono ?_); rintro e w3 ⟨rfl, hb3⟩; have B3 := Lib.hid (below_step B2.out hb3); have R3 := Lib.hid (own_below R2.out hb3); have d3 := (hb3.cell (p := ⟨b, off + k * 2, none⟩) (Nat.lt_of_lt_of_le hb B2.out.size)).trans d2; have c3 := (hb3.cell (p := ⟨b, off + k * 2 + 1, none⟩) (Nat.lt_of_lt_of_le hb B2.out.size)).trans c2; have hB3 := B3.out.size; clear hb3)
          | (at_builtin; refine wpList_app fld_ty rfl _ _ rfl w.heap.size _ _ _ rfl R3.out 1 1 [.string Z, .string Y] rfl (by rfl) (by rw [← HF.out]; exact fldsV_one [f]) (by omega) (by simp only [maxLen]; omega) hB3 ?_; intro v' w4 hown' hgr))
        go_roundw
        case rel =>
          refine ⟨k + 1, by omega, by go_num, ?_, B3.out.grown hgr hB3 (fun g hg => (R3.out.lt g hg).1)⟩
          rw [Hsn.out, fldsV_append, List.length_append, HF.out]
          exact hown'
        case measure => simp [intOf]; omega
      · rw [hp, if_pos rfl, List.append_nil] at hsn
        rw [hp] at hq
        have hq' := hq.symm
        have hq2 : (X1.toList != X2.toList) = false := by rw [bne, hq']; rfl
        have Hsn := Lib.hid hsn
        clear hsn hf hp m1 m2 hlen hX1 hZ hY hq
        go_wp2_with (first
          | (go_at_call 52; (with_reducible refine (L1.out _).mono ?_); rintro e w2 ⟨rfl, hb2⟩; have B2 := Lib.hid (below_step hbel hb2); have R2 := Lib.hid (own_below Hrow.out hb2); clear hb2)
          | (go_at_call 52; (with_reducible refine (L2.out _).mono ?_); rintro e w3 ⟨rfl, hb3⟩; have B3 := Lib.hid (below_step B2.out hb3); have R3 := Lib.hid (own_below R2.out hb3); clear hb3))
        go_roundw
        case rel => exact ⟨k + 1, by omega, by go_num, by rw [Hsn.out]; exact R3.out, B3.out⟩
        case measure => simp [intOf]; omega
    · obtain rfl : k = n := by omega
      have e : L.take k = L := List.take_of_length_le (by omega)
      rw [e] at Hrow
      clear e
      go_wp2
      go_ret
      exact ⟨_, rfl, Hrow.out, hbel⟩
theorem fld_neq (X Y : ByteArray) (w : World) : (binOp .neq 44 (.agg #[.string X, .string Y]) (.agg #[.string X, .string Y])).run Tryd.prog w = .ok (.bool false) w := by
  have u2 := Tryd.underlying9
  have hS : Program.underlying Tryd.prog 44 = some (.struct (Program.fieldsOf Tryd.prog 44)) := by kernel_rfl
  have hp : Program.stoodInHeld Tryd.prog 44 = false := by kernel_rfl
  rw [run_neq_struct, show (10000 : Nat) = 9999 + 1 from rfl, run_equalIn_agg w 9999 44 _ _ hS hp]
  simp only [Program.fieldsOf, Tryd.underlying44]
  go_simp
  try simp
set_option maxHeartbeats 4000000 in
/-- Of two lists that are one. -/
theorem refSame3_any (A : Option Addr) (n c : Nat) (A' : Option Addr) (n' c' : Nat) (L : List Fld) (w : World) (hin : SliceIn w w.heap.size 2 A n c (fldsV L)) (hin' : SliceIn w w.heap.size 2 A' n' c' (fldsV L)) (hs : n ≤ 1000000) :
    Calls Tryd.prog 16 #[.slice A n c, .slice A' n' c'] w fun e w' => e = .returned (.bool true) ∧ Below w.heap.size w w' := by
  have hL := fld_count hin
  have hL' := fld_count hin'
  obtain rfl : n = n' := by omega
  clear hL'
  go_enter Tryd.func16, Tryd.ntmps16
  go_wp2
  go_loopw [5] (fun i wr => ∃ k : Nat, k ≤ n ∧ i = .int .i64 k ∧ Below w.heap.size w wr) (fun i _ => n - (intOf i).toNat)
  case atStart => exact ⟨0, by omega, rfl, Below.refl _ _⟩
  case round =>
    obtain ⟨k, hk, rfl, hbel⟩ := hrel
    by_cases hlt : k < n
    · obtain ⟨f, hf⟩ : ∃ f, L[k]? = some f := ⟨_, List.getElem?_eq_getElem (by omega)⟩
      obtain ⟨b, off, rfl, hb, c0, c1⟩ := fld_at (hin.below hbel) hf
      obtain ⟨b', off', rfl, hb', c0', c1'⟩ := fld_at (hin'.below hbel) hf
      clear hf
      generalize (⟨f.1.toArray⟩ : ByteArray) = X at *
      generalize (⟨f.2.toArray⟩ : ByteArray) = Y at *
      have hne := fun w => fld_neq X Y w
      go_wp2
      go_quiet (fail)
      go_wp2
      go_roundw
      case rel => exact ⟨k + 1, by omega, by go_num, below_drewN hbel _⟩
      case measure => simp [intOf]; omega
    · go_wp2
      go_ret
      exact ⟨rfl, hbel⟩
def oneL (fs : List Fld) (s : List UInt8) : List UInt8 × Bool := match getL fs s with
  | [x] => (x, true)
  | _ => ([], false)
theorem One_any (A : Option Addr) (n c : Nat) (L : List Fld) (s : ByteArray) (w : World) (hin : SliceIn w w.heap.size 2 A n c (fldsV L)) (hs : n ≤ 1000000) (hm : smallF 1000000000 L) (hz : s.size ≤ 1000000000) :
    Calls Tryd.prog 23 #[.slice A n c, .string s] w fun e w' => e = .returned (.tuple #[.string ⟨(oneL L s.data.toList).1.toArray⟩, .bool (oneL L s.data.toList).2]) ∧ Below w.heap.size w w' := by
  have G := Get_any A n c L s w hin hs hm hz
  unfold oneL
  generalize getL L s.data.toList = g at *
  replace G := Lib.hid G
  match hg : g with
  | [x] =>
    simp only
    generalize hX : (⟨x.toArray⟩ : ByteArray) = X
    have HX := Lib.hid hX
    clear hX hin hm hg
    go_enter Tryd.func23, Tryd.ntmps23
    go_wp2_with (go_at_call 18; refine G.out.mono ?_; rintro e w2 ⟨v, rfl, hrow, hb2⟩; obtain ⟨A2, C2, rfl, hsl⟩ := own_slice hrow; obtain ⟨b2, off2, rfl, hb3, hc⟩ := hsl.2.2.2 (by simp); have c0 := hc 0 (.string X) (by rw [← HX.out]; rfl); clear hrow hsl hc; simp only [Nat.add_zero, List.length_singleton] at *)
    go_ret2
    exact ⟨rfl, hb2⟩
  | [] =>
    clear hin hm hg
    go_enter Tryd.func23, Tryd.ntmps23
    go_wp2_with (go_at_call 18; refine G.out.mono ?_; rintro e w2 ⟨v, rfl, hrow, hb2⟩; obtain ⟨A2, C2, rfl, hsl⟩ := own_slice hrow; clear hrow hsl; simp only [List.length_nil] at *)
    go_ret2
    exact ⟨rfl, hb2⟩
  | x :: y :: r =>
    have hne : (((x :: y :: r).length : Int) == 1) = false := by rw [beq_eq_false_iff_ne]; simp; omega
    generalize (x :: y :: r).length = z at *
    clear hin hm hg
    go_enter Tryd.func23, Tryd.ntmps23
    go_wp2_with (go_at_call 18; refine G.out.mono ?_; rintro e w2 ⟨v, rfl, hrow, hb2⟩; obtain ⟨A2, C2, rfl, hsl⟩ := own_slice hrow; clear hrow hsl)
    go_ret2
    exact ⟨rfl, hb2⟩
end Go.Proofs.YtpmidmdodjgeeaaDoor
