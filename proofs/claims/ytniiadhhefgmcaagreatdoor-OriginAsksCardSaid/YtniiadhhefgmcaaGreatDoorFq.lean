/- Fq: several texts, one behind the other. -/
import Derived.Test.YtniiadhhefgmcaaGreatDoorFb
import Derived.Test.YtniiadhhefgmcaaGreatDoorFa
import Derived.Test.YtniiadhhefgmcaaGreatDoorOct5
import Derived.Laws.StructEq
import Derived.Laws.Cover3
import Derived.Test.YtniiadhhefgmcaaGreatDoorClear
import Derived.Test.YtniiadhhefgmcaaGreatDoorKt
import Derived.Deep.CutRange
import Derived.Test.YtniiadhhefgmcaaGreatDoorShape
import Derived.Lib.SlBytesConst
import Derived.Lib.Bytes
import Derived.IntWalk
/- Walks of layer 3: what fields have of a name, by the code's way and the document's. Condition: at most 10^6 fields, texts within 10^9 octets. -/
namespace Go.Proofs.YtniiadhhefgmcaaGreatDoor
open Go.RowKit IH
set_option maxRecDepth 100000
theorem getL_snoc (L : List Fld) (s : List UInt8) (k : Nat) (f : Fld) (hk : L[k]? = some f) : getL (L.take (k + 1)) s = getL (L.take k) s ++ if isN f s = true then [f.2] else [] := by
  unfold getL
  rw [List.take_add_one, hk, List.filter_append, List.map_append]
  cases h : isN f s <;> simp [h]
set_option maxHeartbeats 4000000 in
theorem Get_any (A : Option Addr) (n c : Nat) (L : List Fld) (s : ByteArray) (w : World) (hin : SliceIn w w.heap.size 2 A n c (fldsV L)) (hs : n ≤ 1000000) (hm : smallF 1000000000 L) (hz : s.size ≤ 1000000000) :
    Calls Tryz.prog 95 #[.slice A n c, .string s] w fun e w' => ∃ v, e = .returned v ∧ w'.ownsRow w.heap.size 9 1 v (getL L s.data.toList).length (strsV (getL L s.data.toList)) ∧ Below w.heap.size w w' := by
  have hL := fld_count hin
  go_enter Tryz.func95, Tryz.ntmps95
  go_wp2
  go_loopw [5, 10] (fun v i wr => ∃ k : Nat, k ≤ n ∧ i = .int .i64 k ∧ wr.ownsRow w.heap.size 9 1 v (getL (L.take k) s.data.toList).length (strsV (getL (L.take k) s.data.toList)) ∧ Below w.heap.size w wr) (fun _ i _ => n - (intOf i).toNat)
  case atStart => exact ⟨0, by omega, rfl, World.ownsRow_nil _ _ _ _, Below.refl _ _⟩
  case round =>
    obtain ⟨k, hk, rfl, hrow, hbel⟩ := hrel
    have Hrow := Lib.hid hrow; clear hrow
    by_cases hlt : k < n
    · obtain ⟨f, hf⟩ : ∃ f, L[k]? = some f := ⟨_, List.getElem?_eq_getElem (by omega)⟩
      obtain ⟨b, off, rfl, hb, c0, c1⟩ := fld_at (hin.below hbel) hf
      obtain ⟨m1, m2⟩ := smallF_get hm hf
      have IS := is_any f s m1 hz
      have hsn := getL_snoc L s.data.toList k f hf
      have hlen : (getL (L.take k) s.data.toList).length ≤ 1000000 := by
        have h1 := get_length (L.take k) s.data.toList
        have h2 := List.length_take_le k L
        omega
      cases hp : isN f s.data.toList
      · rw [hp, if_neg (by simp), List.append_nil] at hsn
        rw [hp] at IS
        have Hsn := Lib.hid hsn
        replace IS := Lib.hid IS
        clear hsn hf hp m1 m2 hlen
        generalize (⟨f.1.toArray⟩ : ByteArray) = X at *
        generalize (⟨f.2.toArray⟩ : ByteArray) = Y at *
        go_wp2_with (go_at_call 93; refine (IS.out _).mono ?_; rintro e w2 ⟨rfl, hb2⟩)
        go_roundw
        case rel => exact ⟨k + 1, by omega, by go_num, by rw [Hsn.out]; exact own_below (Hrow.out.alloc _) hb2, below_step (hbel.alloc hbel.size _) hb2⟩
        case measure => simp [intOf]; omega
      · rw [hp, if_pos rfl] at hsn
        rw [hp] at IS
        have Hsn := Lib.hid hsn
        replace IS := Lib.hid IS
        clear hsn hf hp m1 m2
        obtain ⟨X, hX⟩ : ∃ X : ByteArray, (⟨f.1.toArray⟩ : ByteArray) = X := ⟨_, rfl⟩
        obtain ⟨Y, hY⟩ : ∃ Y : ByteArray, (⟨f.2.toArray⟩ : ByteArray) = Y := ⟨_, rfl⟩
        rw [hX, hY] at IS
        rw [hX] at c0
        rw [hY] at c1
        have HY := Lib.hid hY
        clear hX hY
        go_wp2_with (first
          | (go_at_call 93; refine (IS.out _).mono ?_; rintro e w2 ⟨rfl, hb2⟩; have c3 := new_cell hb2 (j := 1) rfl; have Hrow2 := Lib.hid (own_below (Hrow.out.alloc (.cells #[.string X, .string Y] 74)) hb2); have hbel2 := below_step (hbel.alloc hbel.size (.cells #[.string X, .string Y] 74)) hb2; clear hb2; have hB2 := hbel2.size)
          | (at_builtin; refine wpList_app str_ty rfl _ _ rfl w.heap.size _ _ _ rfl Hrow2.out 1 1 _ rfl (by rfl) (one1 _ rfl) (by omega) (by simp only [maxLen]; omega) hB2 ?_; intro v' w3 hown' hgr))
        go_roundw
        case rel =>
          refine ⟨k + 1, by omega, by go_num, ?_, hbel2.grown hgr hB2 (fun g hg => (Hrow2.out.lt g hg).1)⟩
          rw [Hsn.out, strsV_append, List.length_append]
          rw [← HY.out] at hown'
          exact hown'
        case measure => simp [intOf]; omega
    · obtain rfl : k = n := by omega
      have e : L.take k = L := List.take_of_length_le (by omega)
      rw [e] at Hrow
      clear e
      go_wp2
      go_ret
      exact ⟨_, rfl, Hrow.out, hbel⟩
end Go.Proofs.YtniiadhhefgmcaaGreatDoor

/- Walks of layer 3: the document's answer on a name's values, on fields without a name, on two lists; a name's only value. Condition: at most 10^6 fields, texts within 10^9 octets. -/
namespace Go.Proofs.YtniiadhhefgmcaaGreatDoor
open Go.RowKit IH
set_option maxRecDepth 100000
theorem withoutL_snoc (L : List Fld) (s : List UInt8) (k : Nat) (f : Fld) (hk : L[k]? = some f) : withoutL (L.take (k + 1)) [s] = withoutL (L.take k) [s] ++ if isN f s = true then [] else [f] := by
  rw [without_one, without_one, List.take_add_one, hk, List.filter_append]
  cases h : isN f s <;> simp [h]
theorem lower1_any {P : Program} {fn : FuncId} (H : ∀ s : ByteArray, s.size ≤ 1000000000 → ∀ w, Calls P fn #[.string s] w fun e w' => e = .returned (.string ⟨(lower s.data.toList).toArray⟩) ∧ Below w.heap.size w w') (l : List UInt8) (hl : l.length ≤ 1000000000) (w : World) :
    Calls P fn #[.string ⟨l.toArray⟩] w fun e w' => e = .returned (.string ⟨(lower l).toArray⟩) ∧ Below w.heap.size w w' := H ⟨l.toArray⟩ (by rw [size_mk]; exact hl) w
theorem isN_beq (f : Fld) (s : List UInt8) : isN f s = ((⟨(lower f.1).toArray⟩ : ByteArray).toList == (⟨(lower s).toArray⟩ : ByteArray).toList) := by
  rw [ByteArray.toList_eq, ByteArray.toList_eq]; rfl
set_option maxHeartbeats 4000000 in
theorem refGet_any (A : Option Addr) (n c : Nat) (L : List Fld) (s : ByteArray) (w : World) (hin : SliceIn w w.heap.size 2 A n c (fldsV L)) (hs : n ≤ 1000000) (hm : smallF 1000000000 L) (hz : s.size ≤ 1000000000) :
    Calls Tryz.prog 79 #[.slice A n c, .string s] w fun e w' => ∃ v, e = .returned v ∧ w'.ownsRow w.heap.size 9 1 v (getL L s.data.toList).length (strsV (getL L s.data.toList)) ∧ Below w.heap.size w w' := by
  have hL := fld_count hin
  have L2 := refLower_any s hz
  obtain ⟨l, hl⟩ : ∃ l, s.data.toList = l := ⟨_, rfl⟩
  rw [hl] at L2
  rw [hl]
  obtain ⟨X2, hX2⟩ : ∃ X : ByteArray, (⟨(lower l).toArray⟩ : ByteArray) = X := ⟨_, rfl⟩
  rw [hX2] at L2
  replace L2 := Lib.hid L2
  have HX2 := Lib.hid hX2
  clear hl hX2
  go_enter Tryz.func79, Tryz.ntmps79
  go_wp2
  go_loopw [5, 6] (fun v i wr => ∃ k : Nat, k ≤ n ∧ i = .int .i64 k ∧ wr.ownsRow w.heap.size 9 1 v (getL (L.take k) l).length (strsV (getL (L.take k) l)) ∧ Below w.heap.size w wr) (fun _ i _ => n - (intOf i).toNat)
  case atStart => exact ⟨0, by omega, rfl, World.ownsRow_nil _ _ _ _, Below.refl _ _⟩
  case round =>
    obtain ⟨k, hk, rfl, hrow, hbel⟩ := hrel
    have Hrow := Lib.hid hrow; clear hrow
    by_cases hlt : k < n
    · obtain ⟨f, hf⟩ : ∃ f, L[k]? = some f := ⟨_, List.getElem?_eq_getElem (by omega)⟩
      obtain ⟨b, off, rfl, hb, c0, c1⟩ := fld_at (hin.below hbel) hf
      obtain ⟨m1, m2⟩ := smallF_get hm hf
      have L1 := lower1_any refLower_any f.1 m1
      have hsn := getL_snoc L l k f hf
      have hlen : (getL (L.take k) l).length ≤ 1000000 := by
        have h1 := get_length (L.take k) l
        have h2 := List.length_take_le k L
        omega
      have hq := isN_beq f l
      obtain ⟨X1, hX1⟩ : ∃ X : ByteArray, (⟨(lower f.1).toArray⟩ : ByteArray) = X := ⟨_, rfl⟩
      rw [hX1] at L1 hq
      rw [HX2.out] at hq
      obtain ⟨Z, hZ⟩ : ∃ X : ByteArray, (⟨f.1.toArray⟩ : ByteArray) = X := ⟨_, rfl⟩
      obtain ⟨Y, hY⟩ : ∃ Y : ByteArray, (⟨f.2.toArray⟩ : ByteArray) = Y := ⟨_, rfl⟩
      rw [hZ] at L1 c0
      rw [hY] at c1
      have HY := Lib.hid hY
      replace L1 := Lib.hid L1
      cases hp : isN f l
      · rw [hp, if_neg (by simp), List.append_nil] at hsn
        rw [hp] at hq
        have hq' := hq.symm
        have Hsn := Lib.hid hsn
        clear hsn hf hp m1 m2 hlen hX1 hZ hY hq
        go_wp2_with (first
          | (go_at_call 67; (with_reducible refine (L1.out _).mono ?_); rintro e w2 ⟨rfl, hb2⟩; have B2 := Lib.hid (below_step hbel hb2); have R2 := Lib.hid (own_below Hrow.out hb2); clear hb2)
          | (go_at_call 67; (with_reducible refine (L2.out _).mono ?_); rintro e w3 ⟨rfl, hb3⟩; have B3 := Lib.hid (below_step B2.out hb3); have R3 := Lib.hid (own_below R2.out hb3); clear hb3))
        go_roundw
        case rel => exact ⟨k + 1, by omega, by go_num, by rw [Hsn.out]; exact R3.out, B3.out⟩
        case measure => simp [intOf]; omega
      · rw [hp, if_pos rfl] at hsn
        rw [hp] at hq
        have hq' := hq.symm
        have Hsn := Lib.hid hsn
        clear hsn hf hp m1 m2 hX1 hZ hY hq
        go_wp2_with (first
          | (go_at_call 67; (with_reducible refine (L1.out _).mono ?_); rintro e w2 ⟨rfl, hb2⟩; have B2 := Lib.hid (below_step hbel hb2); have R2 := Lib.hid (own_below Hrow.out hb2); have c2 := (hb2.cell (p := ⟨b, off + k * 2 + 1, none⟩) (Nat.lt_of_lt_of_le hb hbel.size)).trans c1; clear hb2)
          | (go_at_call 67; (with_reducible refine (L2.out _).mono ?_); rintro e w3 ⟨rfl, hb3⟩; have B3 := Lib.hid (below_step B2.out hb3); have R3 := Lib.hid (own_below R2.out hb3); have c3 := (hb3.cell (p := ⟨b, off + k * 2 + 1, none⟩) (Nat.lt_of_lt_of_le hb B2.out.size)).trans c2; have hB3 := B3.out.size; clear hb3)
          | (at_builtin; refine wpList_app str_ty rfl _ _ rfl w.heap.size _ _ _ rfl R3.out 1 1 _ rfl (by rfl) (one1 _ rfl) (by omega) (by simp only [maxLen]; omega) hB3 ?_; intro v' w4 hown' hgr))
        go_roundw
        case rel =>
          refine ⟨k + 1, by omega, by go_num, ?_, B3.out.grown hgr hB3 (fun g hg => (R3.out.lt g hg).1)⟩
          rw [Hsn.out, strsV_append, List.length_append]
          rw [← HY.out] at hown'
          exact hown'
        case measure => simp [intOf]; omega
    · obtain rfl : k = n := by omega
      have e : L.take k = L := List.take_of_length_le (by omega)
      rw [e] at Hrow
      clear e
      go_wp2
      go_ret
      exact ⟨_, rfl, Hrow.out, hbel⟩
set_option maxHeartbeats 4000000 in
theorem refWithout_any (A : Option Addr) (n c : Nat) (L : List Fld) (s : ByteArray) (w : World) (hin : SliceIn w w.heap.size 2 A n c (fldsV L)) (hs : n ≤ 1000000) (hm : smallF 1000000000 L) (hz : s.size ≤ 1000000000) :
    Calls Tryz.prog 57 #[.slice A n c, .string s] w fun e w' => ∃ v, e = .returned v ∧ w'.ownsRow w.heap.size 74 2 v (withoutL L [s.data.toList]).length (fldsV (withoutL L [s.data.toList])) ∧ Below w.heap.size w w' := by
  have hL := fld_count hin
  have L2 := refLower_any s hz
  obtain ⟨l, hl⟩ : ∃ l, s.data.toList = l := ⟨_, rfl⟩
  rw [hl] at L2
  rw [hl]
  obtain ⟨X2, hX2⟩ : ∃ X : ByteArray, (⟨(lower l).toArray⟩ : ByteArray) = X := ⟨_, rfl⟩
  rw [hX2] at L2
  replace L2 := Lib.hid L2
  have HX2 := Lib.hid hX2
  clear hl hX2
  go_enter Tryz.func57, Tryz.ntmps57
  go_wp2
  go_loopw [5, 6] (fun v i wr => ∃ k : Nat, k ≤ n ∧ i = .int .i64 k ∧ wr.ownsRow w.heap.size 74 2 v (withoutL (L.take k) [l]).length (fldsV (withoutL (L.take k) [l])) ∧ Below w.heap.size w wr) (fun _ i _ => n - (intOf i).toNat)
  case atStart => exact ⟨0, by omega, rfl, World.ownsRow_nil _ _ _ _, Below.refl _ _⟩
  case round =>
    obtain ⟨k, hk, rfl, hrow, hbel⟩ := hrel
    have Hrow := Lib.hid hrow; clear hrow
    by_cases hlt : k < n
    · obtain ⟨f, hf⟩ : ∃ f, L[k]? = some f := ⟨_, List.getElem?_eq_getElem (by omega)⟩
      obtain ⟨b, off, rfl, hb, c0, c1⟩ := fld_at (hin.below hbel) hf
      obtain ⟨m1, m2⟩ := smallF_get hm hf
      have L1 := lower1_any refLower_any f.1 m1
      have hsn := withoutL_snoc L l k f hf
      have hlen : (withoutL (L.take k) [l]).length ≤ 1000000 := by
        have h1 := without_length_le (L.take k) [l]
        have h2 := List.length_take_le k L
        omega
      have hq := isN_beq f l
      obtain ⟨X1, hX1⟩ : ∃ X : ByteArray, (⟨(lower f.1).toArray⟩ : ByteArray) = X := ⟨_, rfl⟩
      rw [hX1] at L1 hq
      rw [HX2.out] at hq
      obtain ⟨Z, hZ⟩ : ∃ X : ByteArray, (⟨f.1.toArray⟩ : ByteArray) = X := ⟨_, rfl⟩
      obtain ⟨Y, hY⟩ : ∃ Y : ByteArray, (⟨f.2.toArray⟩ : ByteArray) = Y := ⟨_, rfl⟩
      rw [hZ] at L1 c0
      rw [hY] at c1
      have HF : Hid (fldsV [f] = [.string Z, .string Y]) := Lib.hid (by rw [← hZ, ← hY]; rfl)
      replace L1 := Lib.hid L1
      cases hp : isN f l
      · rw [hp, if_neg (by simp)] at hsn
        rw [hp] at hq
        have hq' := hq.symm
        have hq2 : (X1.toList != X2.toList) = true := by rw [bne, hq']; rfl
        have Hsn := Lib.hid hsn
        clear hsn hf hp m1 m2 hX1 hZ hY hq
        go_wp2_with (first
          | (go_at_call 67; (with_reducible refine (L1.out _).mono ?_); rintro e w2 ⟨rfl, hb2⟩; have B2 := Lib.hid (below_step hbel hb2); have R2 := Lib.hid (own_below Hrow.out hb2); have d2 := (hb2.cell (p := ⟨b, off + k * 2, none⟩) (Nat.lt_of_lt_of_le hb hbel.size)).trans c0; have c2 := (hb2.cell (p := ⟨b, off + k * 2 + 1, none⟩) (Nat.lt_of_lt_of_le hb hbel.size)).trans c1; clear hb2)
          | (go_at_call 67; (with_reducible refine (L2.out _).mono ?_); rintro e w3 ⟨rfl, hb3⟩; have B3 := Lib.hid (below_step B2.out hb3); have R3 := Lib.hid (own_below R2.out hb3); have d3 := (hb3.cell (p := ⟨b, off + k * 2, none⟩) (Nat.lt_of_lt_of_le hb B2.out.size)).trans d2; have c3 := (hb3.cell (p := ⟨b, off + k * 2 + 1, none⟩) (Nat.lt_of_lt_of_le hb B2.out.size)).trans c2; have hB3 := B3.out.size; clear hb3)
          | (at_builtin; refine wpList_app fld_ty rfl _ _ rfl w.heap.size _ _ _ rfl R3.out 1 1 [.string Z, .string Y] rfl (by rfl) (by rw [← HF.out]; exact fldsV_one [f]) (by omega) (by simp only [maxLen]; omega) hB3 ?_; intro v' w4 hown' hgr))
        go_roundw
        case rel =>
          refine ⟨k + 1, by omega, by go_num, ?_, B3.out.grown hgr hB3 (fun g hg => (R3.out.lt g hg).1)⟩
          rw [Hsn.out, fldsV_append, List.length_append, HF.out]
          exact hown'
        case measure => simp [intOf]; omega
      · rw [hp, if_pos rfl, List.append_nil] at hsn
        rw [hp] at hq
        have hq' := hq.symm
        have hq2 : (X1.toList != X2.toList) = false := by rw [bne, hq']; rfl
        have Hsn := Lib.hid hsn
        clear hsn hf hp m1 m2 hlen hX1 hZ hY hq
        go_wp2_with (first
          | (go_at_call 67; (with_reducible refine (L1.out _).mono ?_); rintro e w2 ⟨rfl, hb2⟩; have B2 := Lib.hid (below_step hbel hb2); have R2 := Lib.hid (own_below Hrow.out hb2); clear hb2)
          | (go_at_call 67; (with_reducible refine (L2.out _).mono ?_); rintro e w3 ⟨rfl, hb3⟩; have B3 := Lib.hid (below_step B2.out hb3); have R3 := Lib.hid (own_below R2.out hb3); clear hb3))
        go_roundw
        case rel => exact ⟨k + 1, by omega, by go_num, by rw [Hsn.out]; exact R3.out, B3.out⟩
        case measure => simp [intOf]; omega
    · obtain rfl : k = n := by omega
      have e : L.take k = L := List.take_of_length_le (by omega)
      rw [e] at Hrow
      clear e
      go_wp2
      go_ret
      exact ⟨_, rfl, Hrow.out, hbel⟩
theorem fld_neq (X Y : ByteArray) (w : World) : (binOp .neq 74 (.agg #[.string X, .string Y]) (.agg #[.string X, .string Y])).run Tryz.prog w = .ok (.bool false) w := by
  have u2 := Tryz.underlying9
  have hS : Program.underlying Tryz.prog 74 = some (.struct (Program.fieldsOf Tryz.prog 74)) := by kernel_rfl
  have hp : Program.stoodInHeld Tryz.prog 74 = false := by kernel_rfl
  rw [run_neq_struct, show (10000 : Nat) = 9999 + 1 from rfl, run_equalIn_agg w 9999 74 _ _ hS hp]
  simp only [Program.fieldsOf, Tryz.underlying74]
  go_simp
  try simp
set_option maxHeartbeats 4000000 in
/-- Of two lists that are one. -/
theorem refSame3_any (A : Option Addr) (n c : Nat) (A' : Option Addr) (n' c' : Nat) (L : List Fld) (w : World) (hin : SliceIn w w.heap.size 2 A n c (fldsV L)) (hin' : SliceIn w w.heap.size 2 A' n' c' (fldsV L)) (hs : n ≤ 1000000) :
    Calls Tryz.prog 46 #[.slice A n c, .slice A' n' c'] w fun e w' => e = .returned (.bool true) ∧ Below w.heap.size w w' := by
  have hL := fld_count hin
  have hL' := fld_count hin'
  obtain rfl : n = n' := by omega
  clear hL'
  go_enter Tryz.func46, Tryz.ntmps46
  go_wp2
  go_loopw [5] (fun i wr => ∃ k : Nat, k ≤ n ∧ i = .int .i64 k ∧ Below w.heap.size w wr) (fun i _ => n - (intOf i).toNat)
  case atStart => exact ⟨0, by omega, rfl, Below.refl _ _⟩
  case round =>
    obtain ⟨k, hk, rfl, hbel⟩ := hrel
    by_cases hlt : k < n
    · obtain ⟨f, hf⟩ : ∃ f, L[k]? = some f := ⟨_, List.getElem?_eq_getElem (by omega)⟩
      obtain ⟨b, off, rfl, hb, c0, c1⟩ := fld_at (hin.below hbel) hf
      obtain ⟨b', off', rfl, hb', c0', c1'⟩ := fld_at (hin'.below hbel) hf
      clear hf
      generalize (⟨f.1.toArray⟩ : ByteArray) = X at *
      generalize (⟨f.2.toArray⟩ : ByteArray) = Y at *
      have hne := fun w => fld_neq X Y w
      go_wp2
      go_quiet (fail)
      go_wp2
      go_roundw
      case rel => exact ⟨k + 1, by omega, by go_num, below_drewN hbel _⟩
      case measure => simp [intOf]; omega
    · go_wp2
      go_ret
      exact ⟨rfl, hbel⟩
end Go.Proofs.YtniiadhhefgmcaaGreatDoor

/- Walks of layer 3: a copy of fields; the closures of Without and With, and what the library's search makes of them. Condition: at most 10^6 fields and names, texts within 10^9 octets. -/
namespace Go.Proofs.YtniiadhhefgmcaaGreatDoor
open Go.RowKit IH
set_option maxRecDepth 100000
theorem eql_slice_nil {P : Program} (w : World) (t e : TypeId) (a : Option Addr) (l c : Nat) (h : P.underlying t = some (.slice e)) : (binOp .eql t (.slice a l c) (.slice none 0 0)).run P w = .ok (.bool a.isNone) w := by
  simp only [binOp]
  simp [run_equal_slice_nil w t e a l c h]
set_option maxHeartbeats 1000000 in
theorem clone_any (A : Option Addr) (n c : Nat) (L : List Fld) (w : World) (hin : SliceIn w w.heap.size 2 A n c (fldsV L)) (hs : n ≤ 1000000) :
    Calls Tryz.prog 60 #[.slice A n c] w fun e w' => ∃ v, e = .returned v ∧ w'.ownsRow w.heap.size 74 2 v L.length (fldsV L) ∧ Below w.heap.size w w' := by
  have hL := fld_count hin
  rcases A with _ | a
  · have h0 : n = 0 := by
      rcases Nat.eq_zero_or_pos n with h | h
      · exact h
      · obtain ⟨b, off, h1, _⟩ := hin.2.2.2 h; cases h1
    subst h0
    obtain rfl : L = [] := List.eq_nil_of_length_eq_zero hL
    clear hL
    have hq := fun w => eql_slice_nil (P := Tryz.prog) w 24 74 none 0 c Tryz.underlying24
    go_enter Tryz.func60, Tryz.ntmps60
    go_wp2
    go_ret
    exact ⟨_, rfl, World.ownsRow_nil _ _ _ _, Below.refl _ _⟩
  · subst hL
    have hown := World.ownsRow_lit (base := w.heap.size) (e := 74) (size := 2) w #[] 0 (Nat.le_refl _) (by simp [maxLen]) rfl
    have hin2 := hin.alloc (Nat.le_refl _) (.cells #[] 74)
    have Hown := Lib.hid hown
    have Hin2 := Lib.hid hin2
    clear hown hin2 hin
    have hq := fun w => eql_slice_nil (P := Tryz.prog) w 24 74 (some a) L.length c Tryz.underlying24
    go_enter Tryz.func60, Tryz.ntmps60
    go_wp2_with (at_builtin; refine wpList_appS fld_ty rfl _ _ rfl w.heap.size _ 0 [] rfl Hown.out w.heap.size (some a) L.length c (fldsV L) rfl Hin2.out (fldsV_one L) (by omega) (by simp only [maxLen]; omega) (by simp) ?_; intro v' w3 hown' hgr)
    go_ret
    refine ⟨_, rfl, ?_, ((Below.refl _ _).alloc (Nat.le_refl _) _).grown hgr (by simp) (fun g hg => (Hown.out.lt g hg).1)⟩
    simpa using hown'
def smallS (M : Nat) (N : List (List UInt8)) : Prop := ∀ x ∈ N, x.length ≤ M
theorem str_at {w : World} {B n c : Nat} {A : Option Addr} {L : List (List UInt8)} (h : SliceIn w B 1 A n c (strsV L)) {k : Nat} {x : List UInt8} (hk : L[k]? = some x) :
    ∃ b off, A = some ⟨b, off, none⟩ ∧ b < B ∧ w.cell? ⟨b, off + k, none⟩ = some (.string ⟨x.toArray⟩) := by
  obtain ⟨h1, h2, h3, h4⟩ := h
  have hkl : k < L.length := (List.getElem?_eq_some_iff.1 hk).1
  rw [strsV_length] at h1
  obtain ⟨b, off, rfl, hb, hc⟩ := h4 (by omega)
  exact ⟨b, off, rfl, hb, hc _ _ (by rw [strsV_get, hk]; rfl)⟩
theorem str_count {w : World} {B n c : Nat} {A : Option Addr} {L : List (List UInt8)} (h : SliceIn w B 1 A n c (strsV L)) : L.length = n := by
  have := h.1
  rw [strsV_length] at this
  omega
theorem without11_any (f : Fld) (m : ByteArray) (g : Nat) (h1 : f.1.length ≤ 1000000000) (hm : m.size ≤ 1000000000) (w : World) (c0 : w.cell? ⟨g, 0, none⟩ = some (.string ⟨f.1.toArray⟩)) (c1 : w.cell? ⟨g, 1, none⟩ = some (.string ⟨f.2.toArray⟩)) :
    Calls Tryz.prog 92 #[.string m, .pointer (some ⟨g, 0, none⟩)] w fun e w' => e = .returned (.bool (isN f m.data.toList)) ∧ Below w.heap.size w w' := by
  have IS := is_any f m h1 hm
  generalize isN f m.data.toList = r at *
  generalize (⟨f.1.toArray⟩ : ByteArray) = X at *
  generalize (⟨f.2.toArray⟩ : ByteArray) = Y at *
  replace IS := Lib.hid IS
  clear h1 hm
  go_enter Tryz.func92, Tryz.ntmps92
  go_wp2_with (go_at_call 93; (with_reducible refine (IS.out _).mono ?_); rintro e w2 ⟨rfl, hb2⟩)
  go_ret
  exact ⟨rfl, hb2⟩
set_option maxHeartbeats 4000000 in
theorem IndexNames_any (A : Option Addr) (n c : Nat) (N : List (List UInt8)) (f : Fld) (g : Nat) (w : World) (hin : SliceIn w w.heap.size 1 A n c (strsV N)) (hs : n ≤ 1000000) (hm : smallS 1000000000 N) (h1 : f.1.length ≤ 1000000000) (hg : g < w.heap.size) (g0 : w.cell? ⟨g, 0, none⟩ = some (.string ⟨f.1.toArray⟩)) (g1 : w.cell? ⟨g, 1, none⟩ = some (.string ⟨f.2.toArray⟩)) :
    Calls Tryz.prog 121 #[.slice A n c, .func (.func 92) #[] #[.pointer (some ⟨g, 0, none⟩)]] w fun e w' => e = .returned (.int .i64 (fi (fun x => isN f x) N)) ∧ Below w.heap.size w w' := by
  have hL := str_count hin
  obtain ⟨p, hp⟩ : ∃ p : List UInt8 → Bool, (fun x => isN f x) = p := ⟨_, rfl⟩
  have hpf : ∀ x, isN f x = p x := fun f => by rw [← hp]
  rw [hp]
  have HPF := Lib.hid hpf
  clear hp hpf
  go_enter Tryz.func121, Tryz.ntmps121
  go_wp2
  go_loopw [8] (fun i wr => ∃ k : Nat, k ≤ n ∧ i = .int .i64 k ∧ (N.take k).any p = false ∧ Below w.heap.size w wr) (fun i _ => n - (intOf i).toNat)
  case atStart => exact ⟨0, by omega, rfl, rfl, Below.refl _ _⟩
  case round =>
    obtain ⟨k, hk, rfl, hno, hbel⟩ := hrel
    by_cases hlt : k < n
    · obtain ⟨x, hx⟩ : ∃ f, N[k]? = some f := ⟨_, List.getElem?_eq_getElem (by omega)⟩
      obtain ⟨b, off, rfl, hb, c0⟩ := str_at (hin.below hbel) hx
      have m1 : (⟨x.toArray⟩ : ByteArray).size ≤ 1000000000 := by rw [size_mk]; exact hm x (List.mem_of_getElem? hx)
      have q0 := (hbel.cell (p := ⟨g, 0, none⟩) hg).trans g0
      have q1 := (hbel.cell (p := ⟨g, 1, none⟩) hg).trans g1
      have F1 := without11_any f ⟨x.toArray⟩ g h1 m1 wr q0 q1
      have e : isN f (⟨x.toArray⟩ : ByteArray).data.toList = p x := HPF.out x
      rw [e] at F1
      clear q0 q1 e
      cases hp : p x
      · have hnx := any_snoc hx hp hno
        rw [hp] at F1
        have HN := Lib.hid hnx
        replace F1 := Lib.hid F1
        clear hnx hx hno hp m1
        generalize (⟨x.toArray⟩ : ByteArray) = X at *
        go_wp2_with (go_at_call 92; refine F1.out.mono ?_; rintro e w2 ⟨rfl, hb2⟩)
        go_roundw
        case rel => exact ⟨k + 1, by omega, by go_num, HN.out, below_step hbel hb2⟩
        case measure => simp [intOf]; omega
      · have hfin := fi_hit hx hp hno
        rw [hp] at F1
        have HF := Lib.hid hfin
        replace F1 := Lib.hid F1
        clear hfin hx hno hp m1
        generalize (⟨x.toArray⟩ : ByteArray) = X at *
        go_wp2_with (go_at_call 92; refine F1.out.mono ?_; rintro e w2 ⟨rfl, hb2⟩)
        go_ret
        rw [HF.out]
        exact ⟨rfl, below_step hbel hb2⟩
    · obtain rfl : k = n := by omega
      rw [List.take_of_length_le (by omega)] at hno
      have HF := Lib.hid (fi_none hno)
      clear hno
      go_wp2
      go_ret
      rw [HF.out]
      exact ⟨rfl, hbel⟩
theorem ContainsNames_any (A : Option Addr) (n c : Nat) (N : List (List UInt8)) (f : Fld) (g : Nat) (w : World) (hin : SliceIn w w.heap.size 1 A n c (strsV N)) (hs : n ≤ 1000000) (hm : smallS 1000000000 N) (h1 : f.1.length ≤ 1000000000) (hg : g < w.heap.size) (g0 : w.cell? ⟨g, 0, none⟩ = some (.string ⟨f.1.toArray⟩)) (g1 : w.cell? ⟨g, 1, none⟩ = some (.string ⟨f.2.toArray⟩)) :
    Calls Tryz.prog 91 #[.slice A n c, .func (.func 92) #[] #[.pointer (some ⟨g, 0, none⟩)]] w fun e w' => e = .returned (.bool (N.any fun x => isN f x)) ∧ Below w.heap.size w w' := by
  have I := IndexNames_any A n c N f g w hin hs hm h1 hg g0 g1
  rw [← fi_any]
  generalize fi (fun x => isN f x) N = i at *
  replace I := Lib.hid I
  clear hin hm g0 g1
  go_enter Tryz.func91, Tryz.ntmps91
  go_wp2_with (go_at_call 121; refine I.out.mono ?_; rintro e w2 ⟨rfl, hb⟩)
  go_ret
  exact ⟨rfl, hb⟩
end Go.Proofs.YtniiadhhefgmcaaGreatDoor

/- Walks of layer 3: fields but those of some names. Condition: at most 10^6 fields and names, texts within 10^9 octets. -/
namespace Go.Proofs.YtniiadhhefgmcaaGreatDoor
open Go.RowKit IH
set_option maxRecDepth 100000
def ofNames (N : List (List UInt8)) (f : Fld) : Bool := N.any fun x => isN f x
theorem withoutL_names (L : List Fld) (N : List (List UInt8)) : withoutL L N = L.filter fun f => !ofNames N f := rfl
theorem withoutN_snoc (L : List Fld) (N : List (List UInt8)) (k : Nat) (f : Fld) (hk : L[k]? = some f) : withoutL (L.take (k + 1)) N = withoutL (L.take k) N ++ if ofNames N f = true then [] else [f] := by
  rw [withoutL_names, withoutL_names, List.take_add_one, hk, List.filter_append]
  cases h : ofNames N f <;> simp [h]
theorem withoutN_none (L : List Fld) (N : List (List UInt8)) (h : L.any (ofNames N) = false) : withoutL L N = L := by
  rw [withoutL_names, List.filter_eq_self]
  intro f hf
  rw [List.any_eq_false] at h
  have := h f hf
  simpa using this
theorem fi_cases {α : Type} (p : α → Bool) (L : List α) : (fi p L = -1 ∧ L.any p = false) ∨ ∃ (i : Nat) (x : α), fi p L = i ∧ L[i]? = some x ∧ p x = true ∧ (L.take i).any p = false := by
  unfold fi
  cases h : L.findIdx? p with
  | none =>
    left
    rw [List.findIdx?_eq_none_iff] at h
    refine ⟨rfl, ?_⟩
    rw [List.any_eq_false]
    intro x hx
    simp [h x hx]
  | some i =>
    right
    obtain ⟨hl, hp, hn⟩ := List.findIdx?_eq_some_iff_getElem.1 h
    refine ⟨i, _, rfl, List.getElem?_eq_getElem hl, hp, ?_⟩
    rw [List.any_eq_false]
    intro x hx
    obtain ⟨j, hj, rfl⟩ := List.mem_iff_getElem.1 hx
    have hj' : j < i := by rw [List.length_take] at hj; omega
    rw [List.getElem_take]
    simpa using hn j hj'
theorem fldsV_set (M : List Fld) (k : Nat) (f : Fld) : ((fldsV M).set (k * 2) (.string ⟨f.1.toArray⟩)).set (k * 2 + 1) (.string ⟨f.2.toArray⟩) = fldsV (M.set k f) := by
  induction M generalizing k with
  | nil => simp [fldsV]
  | cons g M ih =>
    have e : ∀ (g : Fld) M, fldsV (g :: M) = .string ⟨g.1.toArray⟩ :: .string ⟨g.2.toArray⟩ :: fldsV M := fun _ _ => rfl
    cases k with
    | zero => rw [List.set_cons_zero, e, e]; rfl
    | succ k =>
      rw [List.set_cons_succ, e, e, ← ih, show (k + 1) * 2 = k * 2 + 1 + 1 by omega]
      rfl
theorem without1_any (f : Fld) (A : Option Addr) (m c : Nat) (N : List (List UInt8)) (gn : Nat) (w : World) (h1 : f.1.length ≤ 1000000000) (hgn : gn < w.heap.size) (cn : w.cell? ⟨gn, 0, none⟩ = some (.slice A m c)) (hin : SliceIn w w.heap.size 1 A m c (strsV N)) (hs : m ≤ 1000000) (hm : smallS 1000000000 N) :
    Calls Tryz.prog 90 #[.agg #[.string ⟨f.1.toArray⟩, .string ⟨f.2.toArray⟩], .pointer (some ⟨gn, 0, none⟩)] w fun e w' => e = .returned (.bool (ofNames N f)) ∧ Below w.heap.size w w' := by
  have r := RowAt.new w 74 [.string ⟨f.1.toArray⟩, .string ⟨f.2.toArray⟩]
  have CN := ContainsNames_any A m c N f w.heap.size (w.alloc (.cells #[.string ⟨f.1.toArray⟩, .string ⟨f.2.toArray⟩] 74)) ((hin.alloc (Nat.le_refl _) _).more (by simp)) hs hm h1 (by simp) (r.cell (j := 0) rfl) (r.cell (j := 1) rfl)
  have d0 := (World.cell?_alloc_lt w (.cells #[.string ⟨f.1.toArray⟩, .string ⟨f.2.toArray⟩] 74) ⟨gn, 0, none⟩ hgn).trans cn
  unfold ofNames
  generalize (N.any fun x => isN f x) = b at *
  clear r hin hm cn h1
  generalize (⟨f.1.toArray⟩ : ByteArray) = X at *
  generalize (⟨f.2.toArray⟩ : ByteArray) = Y at *
  replace CN := Lib.hid CN
  go_enter Tryz.func90, Tryz.ntmps90
  go_wp2_with (go_at_call 91; refine CN.out.mono ?_; rintro e w2 ⟨rfl, hb2⟩)
  go_ret
  exact ⟨rfl, below_al_step hb2⟩
set_option maxHeartbeats 4000000 in
theorem IndexWithout_any (A : Option Addr) (n c : Nat) (L : List Fld) (A2 : Option Addr) (m c2 : Nat) (N : List (List UInt8)) (gn B : Nat) (w : World) (hin : SliceIn w w.heap.size 2 A n c (fldsV L)) (hs : n ≤ 1000000) (hm : smallF 1000000000 L)
    (hgn : gn < w.heap.size) (cn : w.cell? ⟨gn, 0, none⟩ = some (.slice A2 m c2)) (hB : B ≤ w.heap.size) (hinN : SliceIn w B 1 A2 m c2 (strsV N)) (hsN : m ≤ 1000000) (hmN : smallS 1000000000 N) :
    Calls Tryz.prog 97 #[.slice A n c, .func (.func 90) #[] #[.pointer (some ⟨gn, 0, none⟩)]] w fun e w' => e = .returned (.int .i64 (fi (ofNames N) L)) ∧ Below w.heap.size w w' := by
  have hL := fld_count hin
  have HinN := Lib.hid hinN
  clear hinN
  go_enter Tryz.func97, Tryz.ntmps97
  go_wp2
  go_loopw [8] (fun i wr => ∃ k : Nat, k ≤ n ∧ i = .int .i64 k ∧ (L.take k).any (ofNames N) = false ∧ Below w.heap.size w wr) (fun i _ => n - (intOf i).toNat)
  case atStart => exact ⟨0, by omega, rfl, rfl, Below.refl _ _⟩
  case round =>
    obtain ⟨k, hk, rfl, hno, hbel⟩ := hrel
    by_cases hlt : k < n
    · obtain ⟨f, hf⟩ : ∃ f, L[k]? = some f := ⟨_, List.getElem?_eq_getElem (by omega)⟩
      obtain ⟨b, off, rfl, hb, c0, c1⟩ := fld_at (hin.below hbel) hf
      obtain ⟨m1, m2⟩ := smallF_get hm hf
      have F1 := without1_any f A2 m c2 N gn wr m1 (Nat.lt_of_lt_of_le hgn hbel.size) ((hbel.cell (p := ⟨gn, 0, none⟩) hgn).trans cn) ((HinN.out.below (hbel.mono hB)).more (Nat.le_trans hB hbel.size)) hsN hmN
      cases hp : ofNames N f
      · have hnx := any_snoc hf hp hno
        rw [hp] at F1
        have HN := Lib.hid hnx
        replace F1 := Lib.hid F1
        clear hnx hf hno hp m1 m2
        generalize (⟨f.1.toArray⟩ : ByteArray) = X at *
        generalize (⟨f.2.toArray⟩ : ByteArray) = Y at *
        go_wp2_with (go_at_call 90; refine F1.out.mono ?_; rintro e w2 ⟨rfl, hb2⟩)
        go_roundw
        case rel => exact ⟨k + 1, by omega, by go_num, HN.out, below_step hbel hb2⟩
        case measure => simp [intOf]; omega
      · have hfin := fi_hit hf hp hno
        rw [hp] at F1
        have HF := Lib.hid hfin
        replace F1 := Lib.hid F1
        clear hfin hf hno hp m1 m2
        generalize (⟨f.1.toArray⟩ : ByteArray) = X at *
        generalize (⟨f.2.toArray⟩ : ByteArray) = Y at *
        go_wp2_with (go_at_call 90; refine F1.out.mono ?_; rintro e w2 ⟨rfl, hb2⟩)
        go_ret
        rw [HF.out]
        exact ⟨rfl, below_step hbel hb2⟩
    · obtain rfl : k = n := by omega
      rw [List.take_of_length_le (by omega)] at hno
      have HF := Lib.hid (fi_none hno)
      clear hno
      go_wp2
      go_ret
      rw [HF.out]
      exact ⟨rfl, hbel⟩
theorem fld_zero_one : ∀ v ∈ (Value.agg #[.string ⟨#[]⟩, .string ⟨#[]⟩]).cells.toList, v.oneCell' = true := by
  intro v hv
  simp [Value.cells] at hv
  subst hv
  rfl
theorem own_cell {w : World} {base : Nat} {e : TypeId} {g n cap : Nat} {xs : List Value} (h : w.ownsRow base e 2 (.slice (some ⟨g, 0, none⟩) n cap) n xs) (j : Nat) (hj : j < n * 2) : ∃ v, w.cell? ⟨g, j, none⟩ = some v := by
  have hl := h.1
  exact ⟨_, by rw [h.cellAt j hj, List.getElem?_eq_getElem (by omega)]⟩
set_option maxHeartbeats 8000000 in
theorem delete_any (base : Nat) (v : Value) (L : List Fld) (A2 : Option Addr) (m c2 : Nat) (N : List (List UInt8)) (gn : Nat) (w : World) (hbase : base ≤ w.heap.size) (hrow : w.ownsRow base 74 2 v L.length (fldsV L)) (hs : L.length ≤ 1000000) (hm : smallF 1000000000 L)
    (hgn : gn < base) (cn : w.cell? ⟨gn, 0, none⟩ = some (.slice A2 m c2)) (hinN : SliceIn w base 1 A2 m c2 (strsV N)) (hsN : m ≤ 1000000) (hmN : smallS 1000000000 N) :
    Calls Tryz.prog 62 #[v, .func (.func 90) #[] #[.pointer (some ⟨gn, 0, none⟩)]] w fun e w' => ∃ v', e = .returned v' ∧ w'.ownsRow base 74 2 v' (withoutL L N).length (fldsV (withoutL L N)) ∧ Below base w w' := by
  obtain ⟨A, c, rfl, hsl⟩ := own_slice hrow
  have IX := IndexWithout_any A L.length c L A2 m c2 N gn base w hsl hs hm (Nat.lt_of_lt_of_le hgn hbase) cn hbase hinN hsN hmN
  rcases fi_cases (ofNames N) L with ⟨h1, h2⟩ | ⟨i, f0, h1, h2, h3, h4⟩
  · rw [h1] at IX
    rw [withoutN_none L N h2]
    have Hrow := Lib.hid hrow
    replace IX := Lib.hid IX
    clear h1 h2 hrow hsl hinN hm hmN cn
    go_enter Tryz.func62, Tryz.ntmps62
    go_wp2_with (go_at_call 97; refine IX.out.mono ?_; rintro e w2 ⟨rfl, hb2⟩)
    go_ret
    exact ⟨_, rfl, own_below Hrow.out hb2, hb2.mono hbase⟩
  · have hil : i < L.length := (List.getElem?_eq_some_iff.1 h2).1
    have hst : L.take i = withoutL (L.take (i + 1)) N := by
      rw [withoutN_snoc L N i f0 h2, if_pos h3, List.append_nil, withoutN_none _ N h4]
    obtain ⟨g, cap, hv, hgb⟩ : ∃ g cap, A = some ⟨g, 0, none⟩ ∧ c = cap ∧ base ≤ g := by
      rcases hrow.2 with ⟨h', h0⟩ | ⟨g, cap, cur, h', hb, _⟩
      · omega
      · simp only [Value.slice.injEq, true_and] at h'
        exact ⟨g, cap, h'.1, h'.2, hb⟩
    obtain ⟨rfl, hgb⟩ := hgb
    subst hv
    obtain ⟨n, hn⟩ : ∃ n, L.length = n := ⟨_, rfl⟩
    rw [hn] at IX hs hil hrow hsl
    rw [h1] at IX
    have Hrow := Lib.hid hrow
    have Hst := Lib.hid hst
    have Hn := Lib.hid hn
    have HinN := Lib.hid hinN
    have Hcn := Lib.hid cn
    have hneq : ((i : Int) == -1) = false := by rw [beq_eq_false_iff_ne]; omega
    replace IX := Lib.hid IX
    rw [hn]
    clear h1 h2 h3 h4 hrow hsl hinN cn hst hn
    go_enter Tryz.func62, Tryz.ntmps62
    go_wp2_with (go_at_call 97; refine IX.out.mono ?_; rintro e w2 ⟨rfl, hb2⟩; have B2 := Lib.hid (hb2.mono hbase); have Hrow2 := Lib.hid (own_below Hrow.out hb2); clear hb2)
    go_loopw [5, 6] (fun a b wr => ∃ (I J : Nat) (M : List Fld), a = .int .i64 I ∧ b = .int .i64 J ∧ I < J ∧ J ≤ n ∧ M.length = n ∧ M.take I = withoutL (L.take J) N ∧ M.drop J = L.drop J ∧ wr.ownsRow base 74 2 (.slice (some ⟨g, 0, none⟩) n c) n (fldsV M) ∧ Below base w wr) (fun _ b _ => n - (intOf b).toNat)
    case atStart => exact ⟨i, i + 1, L, rfl, by go_num, by omega, by omega, Hn.out, Hst.out, rfl, Hrow2.out, B2.out⟩
    case round =>
      clear Hrow2 B2 Hrow Hst IX hil hneq
      obtain ⟨I, J, M, rfl, rfl, hIJ, hJ, hM, htk, hdr, hrow, hbel⟩ := hrel
      have Hrow := Lib.hid hrow
      have Htk := Lib.hid htk
      have Hdr := Lib.hid hdr
      have HM := Lib.hid hM
      clear hrow htk hdr hM
      by_cases hlt : J < n
      · obtain ⟨f, hf⟩ : ∃ f, L[J]? = some f := ⟨_, List.getElem?_eq_getElem (by rw [Hn.out]; omega)⟩
        have hfM : M[J]? = some f := by
          have := congrArg (·[0]?) Hdr.out
          simpa [List.getElem?_drop, hf] using this
        obtain ⟨b', off', e', hb', c0, c1⟩ := fld_at (SliceIn.of_own Hrow.out) hfM
        obtain ⟨rfl, rfl⟩ : g = b' ∧ 0 = off' := by simpa using e'
        rw [Nat.zero_add] at c0 c1
        obtain ⟨m1, m2⟩ := smallF_get hm hf
        have hbw := Nat.le_trans hbase hbel.size
        have F1 : Calls Tryz.prog 90 #[.agg #[.string ⟨f.1.toArray⟩, .string ⟨f.2.toArray⟩], .pointer (some ⟨gn, 0, none⟩)] (wr.alloc (.cells #[.string ⟨f.1.toArray⟩, .string ⟨f.2.toArray⟩] 74)) fun e w' => e = .returned (.bool (ofNames N f)) ∧ Below (wr.alloc (.cells #[.string ⟨f.1.toArray⟩, .string ⟨f.2.toArray⟩] 74)).heap.size (wr.alloc (.cells #[.string ⟨f.1.toArray⟩, .string ⟨f.2.toArray⟩] 74)) w' := by
          have hb3 := hbel.alloc hbw (.cells #[.string ⟨f.1.toArray⟩, .string ⟨f.2.toArray⟩] 74)
          exact without1_any f A2 m c2 N gn _ m1 (by simp; omega) ((hb3.cell (p := ⟨gn, 0, none⟩) hgn).trans Hcn.out) ((HinN.out.below hb3).more (by simp; omega)) hsN hmN
        have hsn := withoutN_snoc L N J f hf
        cases hp : ofNames N f
        · rw [hp, if_neg (by simp)] at hsn
          rw [hp] at F1
          have Hsn := Lib.hid hsn
          have Hset := Lib.hid (fldsV_set M I f)
          have HfM := Lib.hid hfM
          replace F1 := Lib.hid F1
          clear hsn hf hfM hp m1 m2 e'
          obtain ⟨X, hX⟩ : ∃ X : ByteArray, (⟨f.1.toArray⟩ : ByteArray) = X := ⟨_, rfl⟩
          obtain ⟨Y, hY⟩ : ∃ Y : ByteArray, (⟨f.2.toArray⟩ : ByteArray) = Y := ⟨_, rfl⟩
          rw [hX, hY] at F1 Hset
          rw [hX] at c0
          rw [hY] at c1
          clear hX hY
          go_wp2_with (go_at_call 90; refine F1.out.mono ?_; rintro e w3 ⟨rfl, hb3⟩; have d0 := new_cell hb3 (j := 0) rfl; have d1 := new_cell hb3 (j := 1) rfl; have R3 := Lib.hid (own_below (Hrow.out.alloc (.cells #[.string X, .string Y] 74)) hb3); have B3 := Lib.hid ((hbel.alloc hbw (.cells #[.string X, .string Y] 74)).trans (hb3.mono (by simp; omega))); clear hb3; obtain ⟨y0, e0⟩ := own_cell R3.out (I * 2) (by omega); have f0 := R3.out.frozenAt (I * 2); obtain ⟨y1, e1⟩ := own_cell (R3.out.stored (I * 2) (.string X)).1 (I * 2 + 1) (by omega); have f1 := (R3.out.stored (I * 2) (.string X)).1.frozenAt (I * 2 + 1))
          go_roundw
          case rel =>
            obtain ⟨q1, q2⟩ := set_two _ R3.out I (.string X) (.string Y)
            rw [Hset.out] at q1
            refine ⟨I + 1, J + 1, M.set I f, by go_num, by go_num, by omega, by omega, by rw [List.length_set]; exact HM.out, ?_, ?_, q1, B3.out.grown q2 (by have := B3.out.size; omega) (fun k hk => by injection hk with hk; omega)⟩
            · rw [Hsn.out, ← Htk.out]
              have : I < M.length := by rw [HM.out]; omega
              rw [List.take_succ_eq_append_getElem (by rw [List.length_set]; exact this), List.getElem_set_self, List.take_set, List.set_eq_of_length_le (by rw [List.length_take]; omega)]
            · have h5 := congrArg (List.drop 1) Hdr.out
              rw [List.drop_drop, List.drop_drop] at h5
              rw [List.drop_set, if_pos (by omega)]
              exact h5
          case measure => simp [intOf]; omega
        · rw [hp, if_pos rfl, List.append_nil] at hsn
          rw [hp] at F1
          have Hsn := Lib.hid hsn
          replace F1 := Lib.hid F1
          clear hsn hf hfM hp m1 m2 e'
          generalize (⟨f.1.toArray⟩ : ByteArray) = X at *
          generalize (⟨f.2.toArray⟩ : ByteArray) = Y at *
          go_wp2_with (go_at_call 90; refine F1.out.mono ?_; rintro e w3 ⟨rfl, hb3⟩; have R3 := Lib.hid (own_below (Hrow.out.alloc (.cells #[.string X, .string Y] 74)) hb3); have B3 := Lib.hid ((hbel.alloc hbw (.cells #[.string X, .string Y] 74)).trans (hb3.mono (by simp; omega))); clear hb3)
          go_roundw
          case rel =>
            refine ⟨I, J + 1, M, rfl, by go_num, by omega, by omega, HM.out, by rw [Hsn.out]; exact Htk.out, ?_, R3.out, B3.out⟩
            have h5 := congrArg (List.drop 1) Hdr.out
            rw [List.drop_drop, List.drop_drop] at h5
            exact h5
          case measure => simp [intOf]; omega
      · obtain rfl : J = n := by omega
        have e : L.take J = L := List.take_of_length_le (by rw [Hn.out]; omega)
        rw [e] at Htk
        have hnc : J ≤ c := by
          have := Hrow.out
          rcases this.2 with ⟨h', _⟩ | ⟨g', cap', cur, h', _, _, hnc, _⟩
          · cases h'
          · simp only [Value.slice.injEq, true_and] at h'
            omega
        clear e
        go_wp2_with (refine wpList_clear fld_ty fld_zero_one rfl _ rfl base g J c I (c - I) (fldsV M) rfl (by omega) Hrow.out ?_; intro w3 hown' hgr)
        go_ret
        have hk : (withoutL L N).length = I := by rw [← Htk.out, List.length_take, HM.out]; omega
        rw [hk, ← Htk.out, ← fldsV_take]
        exact ⟨_, rfl, hown', hbel.grown hgr (Nat.le_trans hbase hbel.size) (fun k hk => by injection hk with hk; omega)⟩
end Go.Proofs.YtniiadhhefgmcaaGreatDoor

/- Walks of layer 3: Without and With. Condition: at most 10^6 fields and names, texts within 10^9 octets. -/
namespace Go.Proofs.YtniiadhhefgmcaaGreatDoor
open Go.RowKit IH
set_option maxRecDepth 100000
theorem own_mono {w : World} {base base' : Nat} {e : TypeId} {size n : Nat} {v : Value} {xs : List Value} (h : w.ownsRow base e size v n xs) (hb : base' ≤ base) : w.ownsRow base' e size v n xs := by
  refine ⟨h.1, ?_⟩
  rcases h.2 with h2 | ⟨g, cap, cur, hv, hg, r⟩
  · exact .inl h2
  · exact .inr ⟨g, cap, cur, hv, by omega, r⟩
theorem without_small {M : Nat} {L : List Fld} (N : List (List UInt8)) (h : smallF M L) : smallF M (withoutL L N) := fun f hf => h f (List.mem_filter.1 hf).1
set_option maxHeartbeats 4000000 in
theorem Without_any (A : Option Addr) (n c : Nat) (L : List Fld) (A2 : Option Addr) (m c2 : Nat) (N : List (List UInt8)) (w : World) (hin : SliceIn w w.heap.size 2 A n c (fldsV L)) (hs : n ≤ 1000000) (hm : smallF 1000000000 L) (hinN : SliceIn w w.heap.size 1 A2 m c2 (strsV N)) (hsN : m ≤ 1000000) (hmN : smallS 1000000000 N) :
    Calls Tryz.prog 50 #[.slice A n c, .slice A2 m c2] w fun e w' => ∃ v, e = .returned v ∧ w'.ownsRow w.heap.size 74 2 v (withoutL L N).length (fldsV (withoutL L N)) ∧ Below w.heap.size w w' := by
  have hL := fld_count hin
  have CL := clone_any A n c L (w.alloc (.cells #[.slice A2 m c2] 57)) ((hin.alloc (Nat.le_refl _) _).more (by simp)) hs
  have HN := Lib.hid (hinN.alloc (Nat.le_refl _) (.cells #[.slice A2 m c2] 57))
  replace CL := Lib.hid CL
  clear hin hinN
  go_enter Tryz.func50, Tryz.ntmps50
  go_wp2_with (first
    | (go_at_call 60; refine CL.out.mono ?_; rintro e w2 ⟨v, rfl, hrow, hb2⟩; have Hrow := Lib.hid hrow; have B2 := Lib.hid hb2; have cn := new_cell hb2 (j := 0) rfl; have HN2 := Lib.hid ((HN.out.below (hb2.mono (by simp))).more (B' := (w.alloc (.cells #[.slice A2 m c2] 57)).heap.size) (by simp)); have DL := Lib.hid (delete_any _ v L A2 m c2 N w.heap.size w2 hb2.size hrow (by omega) hm (by simp) cn HN2.out hsN hmN); clear hrow hb2 cn)
    | (go_at_call 62; refine DL.out.mono ?_; rintro e w3 ⟨v3, rfl, hrow3, hb3⟩))
  go_ret
  exact ⟨_, rfl, own_mono hrow3 (by simp), below_al_step (B2.out.trans hb3)⟩
end Go.Proofs.YtniiadhhefgmcaaGreatDoor

/- Walk of layer 3: With. Condition: at most 10^5 fields, texts within 10^9 octets. -/
namespace Go.Proofs.YtniiadhhefgmcaaGreatDoor
open Go.RowKit IH
set_option maxRecDepth 100000
theorem row_at {w W : World} (_h : Hid (Below w.heap.size w W)) (e : TypeId) (cs : List Value) : RowAt (W.alloc (.cells cs.toArray e)) W.heap.size e cs := RowAt.new W e cs
theorem row_size {w : World} {g g' : Nat} {e : TypeId} {cs : List Value} (h : RowAt w g e cs) (hg : g = g') : RowAt w g' e cs := hg ▸ h
theorem row_grown {W W' : World} {gn : Nat} {e : TypeId} {cs : List Value} {row : Option Nat} (h : RowAt W gn e cs) (hgr : W.grownBy W' row) (hne : ∀ q, row = some q → q ≠ gn) : RowAt W' gn e cs :=
  h.keep (hgr.block gn h.lt (fun he => hne gn he.symm rfl))
end Go.Proofs.YtniiadhhefgmcaaGreatDoor

/- Walks of layer 3: bytes.Index and bytes.Cut at lists, a header's line. Condition: at most 10^9 octets; the world's shape. -/
namespace Go.Proofs.YtniiadhhefgmcaaGreatDoor
open Go.RowKit IH
set_option maxRecDepth 100000
def natsI (l : List UInt8) : List Int := l.map fun u => (u.toNat : Int)
theorem bytesOf_nats (l : List UInt8) : Lib.bytesOf (natsI l) = l := by
  unfold Lib.bytesOf natsI
  rw [List.map_map]
  conv => rhs; rw [← List.map_id l]
  apply List.map_congr_left
  intro u _
  simp
theorem nats_range (l : List UInt8) : ∀ x ∈ natsI l, 0 ≤ x ∧ x < 256 := by
  intro x hx
  obtain ⟨u, _, rfl⟩ := List.mem_map.1 hx
  have := u.toNat_lt
  omega
theorem nats_cells {w : World} {B b o n c : Nat} {l : List UInt8} (h : SliceIn w B 1 (some ⟨b, o, none⟩) n c (bytesV l)) : (natsI l).length = n ∧ ∀ i, i < n → w.cell? ((⟨b, o, none⟩ : Addr).add i) = some (.int .u8 ((natsI l).getD i 0)) := by
  have hl : l.length = n := by have := h.1; rw [bytesV_length, Nat.mul_one] at this; exact this
  refine ⟨by simp [natsI, hl], fun i hi => ?_⟩
  obtain ⟨b', o', e, _, hc⟩ := h.2.2.2 (by omega)
  simp only [Option.some.injEq, Addr.mk.injEq, and_true] at e
  obtain ⟨rfl, rfl⟩ := e
  have hil : i < l.length := by omega
  rw [add_plain, hc i (byteV l[i]) (by rw [bytesV_get, List.getElem?_eq_getElem hil]; rfl)]
  simp [byteV, natsI, List.getD_eq_getElem?_getD, hil]
theorem bIndex_at {B1 B2 : Nat} (b1 o1 n c1 b2 o2 k c2 : Nat) (l sub : List UInt8) (W : World) (hsh : W.ShapedOpen Tryz.prog) (h1 : SliceIn W B1 1 (some ⟨b1, o1, none⟩) n c1 (bytesV l)) (h2 : SliceIn W B2 1 (some ⟨b2, o2, none⟩) k c2 (bytesV sub)) (hn : n ≤ 1000000000) (hk : k ≤ 1000000000) :
    Calls Tryz.prog 170 #[.slice (some ⟨b1, o1, none⟩) n c1, .slice (some ⟨b2, o2, none⟩) k c2] W fun e w' => e = .returned (.int .i64 (Lib.index l sub)) ∧ ∃ q, w' = W.drewN q := by
  obtain ⟨x1, x2⟩ := nats_cells h1
  obtain ⟨y1, y2⟩ := nats_cells h2
  have := Tryz.bytes_Index_at_shaped ⟨b1, o1, none⟩ ⟨b2, o2, none⟩ n c1 k c2 (natsI l) (natsI sub) W x1 y1 (nats_range _) (nats_range _) x2 y2 h1.2.1 (by omega) (by omega) hsh
  rw [bytesOf_nats, bytesOf_nats] at this
  exact this
theorem bCut_at {B1 B2 : Nat} (b1 o1 n c1 b2 o2 k c2 : Nat) (l sub : List UInt8) (W : World) (hsh : W.ShapedOpen Tryz.prog) (h1 : SliceIn W B1 1 (some ⟨b1, o1, none⟩) n c1 (bytesV l)) (h2 : SliceIn W B2 1 (some ⟨b2, o2, none⟩) k c2 (bytesV sub)) (hn : n ≤ 1000000000) (hk : k ≤ 1000000000) :
    Calls Tryz.prog 152 #[.slice (some ⟨b1, o1, none⟩) n c1, .slice (some ⟨b2, o2, none⟩) k c2] W fun e w' => e = .returned (Lib.cutV (some ⟨b1, o1, none⟩) n c1 k (Lib.index l sub)) ∧ ∃ q, w' = W.drewN q := by
  have hl1 : l.length = n := by have := h1.1; rw [bytesV_length, Nat.mul_one] at this; exact this
  have hl2 : sub.length = k := by have := h2.1; rw [bytesV_length, Nat.mul_one] at this; exact this
  exact Tryz.bytes_Cut_of (some ⟨b1, o1, none⟩) (some ⟨b2, o2, none⟩) n c1 k c2 (Lib.index l sub) W h1.2.1 (Lib.index_ge _ _) (fun h => by have := Lib.index_room _ _ h; rw [hl1, hl2] at this; exact this) (by omega) (bIndex_at b1 o1 n c1 b2 o2 k c2 l sub W hsh h1 h2 hn hk)
theorem index_cr (l : List UInt8) : Lib.index l [13, 10] = match crAt l with | none => -1 | some n => (n : Int) := by
  induction l with
  | nil => rfl
  | cons b l ih =>
    unfold Lib.index crAt
    by_cases h : b = 13 ∧ l.head? = some 10
    · have hp : ([13, 10] : List UInt8).isPrefixOf (b :: l) = true := by
        obtain ⟨rfl, h2⟩ := h
        cases l with
        | nil => cases h2
        | cons d r => simp only [List.head?_cons, Option.some.injEq] at h2; subst h2; rfl
      rw [if_pos hp, if_pos h]
      rfl
    · have hp : ([13, 10] : List UInt8).isPrefixOf (b :: l) = false := by
        rw [Bool.eq_false_iff]
        intro hp
        rw [List.isPrefixOf_iff_prefix] at hp
        obtain ⟨t, ht⟩ := hp
        simp only [List.cons_append, List.nil_append, List.cons.injEq] at ht
        exact h ⟨ht.1.symm, by rw [← ht.2]; rfl⟩
      rw [if_neg (by rw [hp]; decide), if_neg h, ih]
      cases hc : crAt l with
      | none => rfl
      | some k =>
        have : ((k : Int) == -1) = false := by rw [beq_eq_false_iff_ne]; omega
        simp [this]
theorem index_one (l : List UInt8) (d : UInt8) : (d ∉ l → Lib.index l [d] = -1) ∧ (d ∈ l → Lib.index l [d] = ((l.takeWhile (· != d)).length : Nat)) := by
  rw [Lib.index_one]
  constructor
  · intro h
    exact indexByte_no d l fun x hx e => h (e ▸ hx)
  · intro h
    obtain ⟨a, b, rfl, ha⟩ := List.eq_append_cons_of_mem h
    have ha' : ∀ x ∈ a, x ≠ d := fun x hx e => ha (e ▸ hx)
    rw [indexByte_mid d a b ha', (takeWhile_to ha').1]
/-- The row of a constant's octets. -/
theorem RowAt.lit (w : World) (e : TypeId) (cs : List Value) : RowAt (w.alloc (.cells cs.toArray e (cs.length, cs.length + 1))) w.heap.size e cs :=
  ⟨cs.toArray, cs.length, cs.length + 1, heap_alloc_new w _, by simp, by simp⟩
/-- What line says. -/
def lineRes (N a : Nat) (rest : List UInt8) : List UInt8 × Int × Int := match lineF N a rest with
  | (some s, _) => (s, (a : Int) + s.length + 2, 0)
  | (none, e) => ([], 0, e)
set_option maxHeartbeats 4000000 in
theorem line_any (b0 off n c : Nat) (l : List UInt8) (a : Nat) (w : World) (hsh : w.ShapedOpen Tryz.prog) (hin : SliceIn w w.heap.size 1 (some ⟨b0, off, none⟩) n c (bytesV l)) (ha : a ≤ n) (hn : n ≤ 1000000000) :
    Calls Tryz.prog 151 #[.slice (some ⟨b0, off, none⟩) n c, .int .i64 a] w fun e w' => e = .returned (.tuple #[.string ⟨(lineRes n a (l.drop a)).1.toArray⟩, .int .i64 (lineRes n a (l.drop a)).2.1, .int .i64 (lineRes n a (l.drop a)).2.2]) ∧ Below w.heap.size w w' := by
  have hnc := hin.2.1
  have hll : l.length = n := by have := hin.1; rw [bytesV_length, Nat.mul_one] at this; exact this
  obtain ⟨o2, ho2⟩ : ∃ o2, (if c = a then (some ⟨b0, off, none⟩ : Option Addr) else some ⟨b0, off + a, none⟩) = some ⟨b0, o2, none⟩ := by
    by_cases h : c = a
    · exact ⟨off, by rw [if_pos h]⟩
    · exact ⟨off + a, by rw [if_neg h]⟩
  have hsub := hin.sub ha (Nat.le_refl n) (some ⟨b0, o2, none⟩) (fun hlt => by rw [← ho2, if_neg (by omega)]; simp [add_plain])
  simp only [Nat.mul_one] at hsub
  have hdr : (bytesV l).drop a = bytesV (l.drop a) := by simp [bytesV, List.map_drop]
  rw [hdr, List.take_of_length_le (by rw [bytesV_length, List.length_drop]; omega)] at hsub
  have kc : ∀ w : World, (convert 25 25 (.slice (some ⟨w.heap.size, 0, none⟩) 2 2)).run Tryz.prog (w.alloc (.cells #[.int .u8 13, .int .u8 10] 5)) = .ok (.slice (some ⟨w.heap.size, 0, none⟩) 2 2) (w.alloc (.cells #[.int .u8 13, .int .u8 10] 5 (2, 3))) := fun w => Lib.run_convert_bytes_const (P := Tryz.prog) w 25 5 #[.int .u8 13, .int .u8 10] 2 2 Tryz.underlying25 Tryz.underlying5
  have hc2 := (RowAt.lit w 5 [.int .u8 13, .int .u8 10]).slice (size := 1) (n := 2) (c := 2) rfl (Nat.le_refl _) (by simp [maxLen])
  have IX := bIndex_at b0 o2 (n - a) (c - a) w.heap.size 0 2 2 (l.drop a) [13, 10] (w.alloc (.cells #[.int .u8 13, .int .u8 10] 5 (2, 3))) (shaped_below hsh (below_al w _)) (hsub.alloc (Nat.le_refl _) _) hc2 (by omega) (by omega)
  rw [index_cr] at IX
  have i1 : (a : Int) ≤ (n : Int) := by omega
  have i2 : (0 : Int) ≤ (a : Int) := by omega
  have j1 : a ≤ c := by omega
  clear hc2 hsub hdr
  cases hcr : crAt (l.drop a) with
  | none =>
    have hres : lineRes n a (l.drop a) = ([], 0, if 65536 < n ∨ 65536 < a + 1 then 12 else 11) := by unfold lineRes lineF; rw [hcr]
    rw [hcr] at IX
    rw [hres]
    replace IX := Lib.hid IX
    clear hres hcr hin
    by_cases h1 : 65536 < n
    · rw [if_pos (.inl h1)]
      have k1 : (65536 : Int) < (n : Int) := by omega
      go_enter Tryz.func151, Tryz.ntmps151
      go_wp2_with (go_at_call 170; refine IX.out.mono ?_; rintro e w2 ⟨rfl, q, rfl⟩)
      go_ret3
      exact ⟨rfl, below_drewN (below_al w _) q⟩
    · by_cases h2 : 65536 < a + 1
      · rw [if_pos (.inr h2)]
        go_enter Tryz.func151, Tryz.ntmps151
        go_wp2_with (go_at_call 170; refine IX.out.mono ?_; rintro e w2 ⟨rfl, q, rfl⟩)
        go_ret3
        exact ⟨rfl, below_drewN (below_al w _) q⟩
      · rw [if_neg (by omega)]
        go_enter Tryz.func151, Tryz.ntmps151
        go_wp2_with (go_at_call 170; refine IX.out.mono ?_; rintro e w2 ⟨rfl, q, rfl⟩)
        go_ret3
        exact ⟨rfl, below_drewN (below_al w _) q⟩
  | some k =>
    have hk := crAt_le hcr
    rw [List.length_drop, hll] at hk
    have kb : a + k + 2 ≤ n := by omega
    obtain ⟨t, ht⟩ : ∃ t : Int, (a : Int) + (k : Int) = t := ⟨_, rfl⟩
    have t0 : 0 ≤ t := by omega
    have t1 : t + 2 ≤ (n : Int) := by omega
    clear hk
    have hca : ¬ c = a := by omega
    rw [if_neg hca] at ho2
    obtain rfl : off + a = o2 := by simpa using ho2
    clear ho2
    rw [hcr] at IX
    simp only at IX
    by_cases h1 : 65536 < a + k + 2
    · have hres : lineRes n a (l.drop a) = ([], 0, 12) := by unfold lineRes lineF; rw [hcr]; simp only; rw [if_pos h1]
      rw [hres]
      replace IX := Lib.hid IX
      have h1I : (65536 : Int) < t + 2 := by omega
      clear hres hcr hin h1 kb
      go_enter Tryz.func151, Tryz.ntmps151
      go_wp2_with (go_at_call 170; refine IX.out.mono ?_; rintro e w2 ⟨rfl, q, rfl⟩)
      go_ret3
      exact ⟨rfl, below_drewN (below_al w _) q⟩
    · have hlen : ((l.drop a).take k).length = k := by rw [List.length_take, List.length_drop]; omega
      have hres : lineRes n a (l.drop a) = ((l.drop a).take k, (a : Int) + k + 2, 0) := by unfold lineRes lineF; rw [hcr]; simp only; rw [if_neg h1]; simp only; rw [hlen]
      rw [hres]
      have hs2 := hin.sub (a := a) (b := a + k) (by omega) (by omega) (some ⟨b0, off + a, none⟩) (fun _ => by simp [add_plain])
      simp only [Nat.mul_one] at hs2
      have hdr : ((bytesV l).drop a).take (a + k - a) = bytesV ((l.drop a).take k) := by rw [show a + k - a = k by omega]; simp [bytesV, List.map_drop, List.map_take]
      rw [hdr, show a + k - a = k by omega] at hs2
      have hcs : ∀ q, (convert 25 9 (.slice (some ⟨b0, off + a, none⟩) k (c - a))).run Tryz.prog ((w.alloc (.cells #[.int .u8 13, .int .u8 10] 5 (2, 3))).drewN q) = .ok (.string ⟨((l.drop a).take k).toArray⟩) ((w.alloc (.cells #[.int .u8 13, .int .u8 10] 5 (2, 3))).drewN q) := fun q =>
        run_string_of (P := Tryz.prog) ((hs2.alloc (Nat.le_refl _) (.cells #[.int .u8 13, .int .u8 10] 5 (2, 3))).drewN q) 25 9 5 Tryz.underlying25 Tryz.underlying5 Tryz.underlying9
      have i3 : t ≤ (n : Int) := by omega
      have i4 : (a : Int) ≤ t := by omega
      have it : t.toNat = a + k := by omega
      have j2 : a + k ≤ c := by omega
      have j3 : a ≤ a + k := by omega
      replace IX := Lib.hid IX
      generalize (⟨((l.drop a).take k).toArray⟩ : ByteArray) = X at *
      have h1I : t + 2 ≤ (65536 : Int) := by omega
      rw [ht]
      clear hres hcr hin hs2 hdr hlen h1 kb
      go_enter Tryz.func151, Tryz.ntmps151
      go_wp2_with (go_at_call 170; refine IX.out.mono ?_; rintro e w2 ⟨rfl, q, rfl⟩)
      go_ret3
      exact ⟨rfl, below_drewN (below_al w _) q⟩
end Go.Proofs.YtniiadhhefgmcaaGreatDoor

/- Walk of layer 3: a header, read. Condition: at most 10^9 octets; the world's shape. -/
namespace Go.Proofs.YtniiadhhefgmcaaGreatDoor
open Go.RowKit IH
set_option maxRecDepth 100000
theorem lineRes_none {N a : Nat} {l : List UInt8} {e : Int} (h : lineF N a l = (none, e)) : lineRes N a l = ([], 0, e) := by unfold lineRes; rw [h]
theorem lineRes_some {N a : Nat} {l s : List UInt8} {e : Int} (h : lineF N a l = (some s, e)) : lineRes N a l = (s, (a : Int) + s.length + 2, 0) := by unfold lineRes; rw [h]
theorem lineF_err {N a : Nat} {l : List UInt8} {e : Int} (h : lineF N a l = (none, e)) : e = 11 ∨ e = 12 := by
  unfold lineF at h
  split at h
  · simp only [Prod.mk.injEq, true_and] at h
    split at h
    · exact .inr h.symm
    · exact .inl h.symm
  · split at h
    · simp only [Prod.mk.injEq, true_and] at h
      exact .inr h.symm
    · cases h
/-- One step of the reading. -/
theorem parseF_step {N a : Nat} {l s : List UInt8} {out : List Fld} (h : lineF N a l = (some s, 0)) (hs : s ≠ []) :
    parseF (l.length + 1) N a l out = match headF s with
      | none => ([], 0, 10)
      | some f => if out.length = 128 then ([], 0, 13) else parseF ((l.drop (s.length + 2)).length + 1) N (a + s.length + 2) (l.drop (s.length + 2)) (out ++ [f]) := by
  have hle := lineF_le h
  conv => lhs; unfold parseF
  rw [h]
  simp only
  rw [if_neg hs]
  cases headF s with
  | none => rfl
  | some f =>
    simp only
    split
    · rfl
    · exact parseF_more _ _ _ _ _ _ (by rw [List.length_drop]; omega) (Nat.lt_succ_self _)
theorem headF_none_of {s : List UInt8} (h : 58 ∉ s) : headF s = none := by unfold headF; rw [if_neg h]
theorem headF_of {s : List UInt8} (h : 58 ∈ s) : headF s = if fit (s.takeWhile (· != 58), trim ((s.dropWhile (· != 58)).drop 1)) = true then some (s.takeWhile (· != 58), trim ((s.dropWhile (· != 58)).drop 1)) else none := by unfold headF; rw [if_pos h]
theorem trim_le (l : List UInt8) : (trim l).length ≤ l.length := by
  have h1 : ∀ l : List UInt8, (trimL l).length ≤ l.length := fun l => (List.dropWhile_suffix _).length_le
  unfold trim trimR
  have h2 := h1 (trimL l.reverse).reverse
  have h3 := h1 l.reverse
  rw [List.length_reverse] at h2 h3
  omega
theorem lineF_ok {N a : Nat} {l s : List UInt8} {e : Int} (h : lineF N a l = (some s, e)) : e = 0 := by
  unfold lineF at h
  split at h
  · cases h
  · split at h
    · cases h
    · simp only [Prod.mk.injEq] at h
      exact h.2.symm
/-- What is cut at the colon: ahead, behind; is there one? -/
def cut58 (s : List UInt8) : List UInt8 × List UInt8 × Bool := if 58 ∈ s then (s.takeWhile (· != 58), (s.dropWhile (· != 58)).drop 1, true) else (s, [], false)
theorem headF_cut (s : List UInt8) : headF s = if (cut58 s).2.2 = true ∧ fit ((cut58 s).1, trim (cut58 s).2.1) = true then some ((cut58 s).1, trim (cut58 s).2.1) else none := by
  unfold cut58
  by_cases h : 58 ∈ s
  · rw [if_pos h, headF_of h]
    simp
  · rw [if_neg h, headF_none_of h]
    simp
theorem cut_len (s : List UInt8) : (cut58 s).1.length ≤ s.length ∧ (cut58 s).2.1.length ≤ s.length := by
  unfold cut58
  split
  · have h1 := (List.takeWhile_prefix (l := s) (· != (58 : UInt8))).length_le
    have h2 := (List.dropWhile_suffix (l := s) (· != (58 : UInt8))).length_le
    simp only [List.length_drop]
    omega
  · simp
theorem cut_val {W : World} {B g n C : Nat} {s : List UInt8} (h : SliceIn W B 1 (some ⟨g, 0, none⟩) n C (bytesV s)) :
    ∃ A4 n4 C4 A5 n5 C5, Lib.cutV (some ⟨g, 0, none⟩) n C 1 (Lib.index s [58]) = .tuple #[.slice A4 n4 C4, .slice A5 n5 C5, .bool (cut58 s).2.2] ∧ SliceIn W B 1 A4 n4 C4 (bytesV (cut58 s).1) ∧ SliceIn W B 1 A5 n5 C5 (bytesV (cut58 s).2.1) := by
  have hl : s.length = n := by have := h.1; rw [bytesV_length, Nat.mul_one] at this; exact this
  unfold cut58
  by_cases hm : 58 ∈ s
  · rw [if_pos hm, (index_one s 58).2 hm]
    have hj : (s.takeWhile (· != 58)).length + 1 ≤ s.length := by
      obtain ⟨a, b, rfl, ha⟩ := List.eq_append_cons_of_mem hm
      have ha' : ∀ x ∈ a, x ≠ 58 := fun x hx e => ha (e ▸ hx)
      rw [(takeWhile_to ha').1]
      simp
    have hsp : s.takeWhile (· != 58) ++ s.dropWhile (· != 58) = s := List.takeWhile_append_dropWhile
    obtain ⟨x, hx⟩ : ∃ x, s.takeWhile (· != 58) = x := ⟨_, rfl⟩
    obtain ⟨y, hy⟩ : ∃ y, s.dropWhile (· != 58) = y := ⟨_, rfl⟩
    rw [hx] at hj hsp ⊢
    rw [hy] at hsp ⊢
    have e1 : s.take x.length = x := by rw [← hsp, List.take_left']; rfl
    have e2 : s.drop (x.length + 1) = y.drop 1 := by rw [← hsp, ← List.drop_drop, List.drop_left']; rfl
    have hc := h.2.1
    have h1 := h.sub (a := 0) (b := x.length) (Nat.zero_le _) (by omega) (some ⟨g, 0, none⟩) (fun _ => by simp [add_plain])
    have h2 := h.sub (a := x.length + 1) (b := n) (by omega) (Nat.le_refl _) (if C = x.length + 1 then some ⟨g, 0, none⟩ else some ⟨g, x.length + 1, none⟩) (fun hlt => by rw [if_neg (by omega)]; simp [add_plain])
    simp only [Nat.mul_one, Nat.sub_zero, List.drop_zero] at h1 h2
    rw [show (bytesV s).take x.length = bytesV x by unfold bytesV; rw [← List.map_take, e1]] at h1
    rw [show ((bytesV s).drop (x.length + 1)).take (n - (x.length + 1)) = bytesV (y.drop 1) by
      unfold bytesV
      rw [← List.map_drop, ← List.map_take, e2, List.take_of_length_le]
      have := congrArg List.length e2
      rw [List.length_drop, hl] at this
      omega] at h2
    refine ⟨some ⟨g, 0, none⟩, x.length, C, _, _, _, ?_, h1, h2⟩
    unfold Lib.cutV Lib.fromV
    rw [if_pos (by omega), Int.toNat_natCast]
    simp only [Option.map_some, add_plain, Nat.zero_add]
  · rw [if_neg hm, (index_one s 58).1 hm]
    exact ⟨_, _, _, none, 0, 0, rfl, h, SliceIn.none_ (Nat.zero_le _)⟩
theorem emp_list {s : ByteArray} {l : List UInt8} (h : s.data.toList = l) (hl : l ≠ []) : s.toList.isEmpty = false := by
  rw [ByteArray.toList_eq, h, List.isEmpty_eq_false_iff]; exact hl
set_option maxHeartbeats 4000000 in
theorem fparse_any (b0 off n c : Nat) (l : List UInt8) (w : World) (hsh : w.ShapedOpen Tryz.prog) (hin : SliceIn w w.heap.size 1 (some ⟨b0, off, none⟩) n c (bytesV l)) (hn : n ≤ 1000000000) :
    Calls Tryz.prog 138 #[.slice (some ⟨b0, off, none⟩) n c] w fun e w' => ∃ v, e = .returned (.tuple #[v, .int .i64 (parseFs l).2.1, .int .i64 (parseFs l).2.2]) ∧ w'.ownsRow w.heap.size 74 2 v (parseFs l).1.length (fldsV (parseFs l).1) ∧ Below w.heap.size w w' := by
  have hll : l.length = n := by have := hin.1; rw [bytesV_length, Nat.mul_one] at this; exact this
  obtain ⟨U, hU⟩ : ∃ U, parseFs l = U := ⟨_, rfl⟩
  rw [hU]
  have HU0 : Hid (U = parseF ((l.drop 0).length + 1) n 0 (l.drop 0) []) := Lib.hid (by rw [← hU, ← hll]; rfl)
  have Hsh := Lib.hid hsh
  have Hin := Lib.hid hin
  have Hll := Lib.hid hll
  clear hU hsh hin hll
  go_enter Tryz.func138, Tryz.ntmps138
  go_wp2
  go_loopw [5, 6] (fun v i wr => ∃ (a : Nat) (out : List Fld), i = .int .i64 a ∧ a ≤ n ∧ out.length ≤ 128 ∧ U = parseF ((l.drop a).length + 1) n a (l.drop a) out ∧ wr.ownsRow w.heap.size 74 2 v out.length (fldsV out) ∧ Below w.heap.size w wr) (fun _ i _ => n - (intOf i).toNat)
  case atStart => exact ⟨0, [], rfl, by omega, by simp, HU0.out, World.ownsRow_nil _ _ _ _, Below.refl _ _⟩
  case round =>
    clear HU0
    obtain ⟨a, out, rfl, ha, hout, hat, hrow, hbel⟩ := hrel
    have Hrow := Lib.hid hrow
    have Hbel := Lib.hid hbel
    have LN := line_any b0 off n c l a wr (shaped_below Hsh.out hbel) ((Hin.out.below hbel).more hbel.size) ha hn
    clear hrow hbel
    have hdl : (l.drop a).length = n - a := by rw [List.length_drop, Hll.out]
    cases hlf : lineF n a (l.drop a) with
    | mk so e0 =>
      cases so with
      | none =>
        rw [lineRes_none hlf] at LN
        have hu : U = ([], 0, e0) := by rw [hat]; unfold parseF; rw [hlf]
        have HU := Lib.hid hu
        replace LN := Lib.hid LN
        have he := lineF_err hlf
        clear hu hat hlf hdl
        rcases he with rfl | rfl
        all_goals
          go_wp2_with (go_at_call 151; refine LN.out.mono ?_; rintro e w2 ⟨rfl, hb2⟩)
          go_ret3
          exact ⟨_, by rw [HU.out]; rfl, by rw [HU.out]; exact World.ownsRow_nil _ _ _ _, below_step Hbel.out hb2⟩
      | some s =>
        obtain rfl := lineF_ok hlf
        rw [lineRes_some hlf] at LN
        have hle := lineF_le hlf
        rw [hdl] at hle
        obtain ⟨S, hS⟩ : ∃ S : ByteArray, (⟨s.toArray⟩ : ByteArray) = S := ⟨_, rfl⟩
        have hSd : S.data.toList = s := by rw [← hS]
        have hSs : S.size = s.length := by rw [← hS, size_mk]
        rw [hS] at LN
        simp only at LN
        by_cases hs : s = []
        · subst hs
          have hE : S.toList = [] := by rw [ByteArray.toList_eq, hSd]
          have hu : U = (out, (a : Int) + 2, 0) := by rw [hat]; unfold parseF; rw [hlf]; simp
          have HU := Lib.hid hu
          have hz : (a : Int) + (([] : List UInt8).length : Int) + 2 = (a : Int) + 2 := by simp
          rw [hz] at LN
          replace LN := Lib.hid LN
          clear hu hat hlf hdl hS hSd hSs hle hz
          go_wp2_with (go_at_call 151; refine LN.out.mono ?_; rintro e w2 ⟨rfl, hb2⟩)
          go_ret3
          exact ⟨_, by rw [HU.out]; rfl, by rw [HU.out]; exact own_below Hrow.out hb2, below_step Hbel.out hb2⟩
        · have hE := emp_list hSd hs
          rw [parseF_step hlf hs, headF_cut, List.drop_drop, ← Nat.add_assoc] at hat
          have hcl := cut_len s
          obtain ⟨t, ht⟩ : ∃ t : Int, (a : Int) + (s.length : Int) = t := ⟨_, rfl⟩
          obtain ⟨next, hnx⟩ : ∃ next : Nat, a + s.length + 2 = next := ⟨_, rfl⟩
          rw [hnx] at hat
          have hnI : t + 2 = (next : Int) := by omega
          have hnb : next ≤ n := by omega
          have hna : a < next := by omega
          rw [ht, hnI] at LN
          have hSb : S.size ≤ 1000000000 := by omega
          obtain ⟨x, hx⟩ : ∃ x, (cut58 s).1 = x := ⟨_, rfl⟩
          obtain ⟨v, hv⟩ : ∃ v, (cut58 s).2.1 = v := ⟨_, rfl⟩
          obtain ⟨ok, hok⟩ : ∃ ok, (cut58 s).2.2 = ok := ⟨_, rfl⟩
          rw [hx, hv] at hcl
          rw [hx, hv, hok] at hat
          have hxl : x.length ≤ 1000000000 := by omega
          have hvl : v.length ≤ 1000000000 := by omega
          have hzl : (trim v).length ≤ 1000000000 := by have := trim_le v; omega
          have HU := Lib.hid hat
          have HX := Lib.hid hx
          have HV := Lib.hid hv
          have HK := Lib.hid hok
          have HSd := Lib.hid hSd
          replace LN := Lib.hid LN
          have kc : ∀ w : World, (convert 25 25 (.slice (some ⟨w.heap.size, 0, none⟩) 1 1)).run Tryz.prog (w.alloc (.cells #[.int .u8 58] 5)) = .ok (.slice (some ⟨w.heap.size, 0, none⟩) 1 1) (w.alloc (.cells #[.int .u8 58] 5 (1, 2))) := fun w => Lib.run_convert_bytes_const (P := Tryz.prog) w 25 5 #[.int .u8 58] 1 1 Tryz.underlying25 Tryz.underlying5
          have TR : ∀ w, Calls Tryz.prog 123 #[.string ⟨v.toArray⟩] w fun e w' => e = .returned (.string ⟨(trim v).toArray⟩) ∧ Below w.heap.size w w' := fun w => Trim_any ⟨v.toArray⟩ (by rw [size_mk]; exact hvl) w
          have FR := fright_any (x, trim v) hxl hzl
          clear hat hlf hdl hS hSs hcl ht hnI hnx hs hSd hx hv hok
          obtain ⟨X, hX⟩ : ∃ X : ByteArray, (⟨x.toArray⟩ : ByteArray) = X := ⟨_, rfl⟩
          obtain ⟨V, hV⟩ : ∃ V : ByteArray, (⟨v.toArray⟩ : ByteArray) = V := ⟨_, rfl⟩
          obtain ⟨Z, hZ⟩ : ∃ Z : ByteArray, (⟨(trim v).toArray⟩ : ByteArray) = Z := ⟨_, rfl⟩
          rw [hV, hZ] at TR
          simp only [hX, hZ] at FR
          have HF : Hid (fldsV [(x, trim v)] = [.string X, .string Z]) := Lib.hid (by rw [← hX, ← hZ]; rfl)
          have HsX := Lib.hid hX
          have HsV := Lib.hid hV
          replace TR := Lib.hid TR
          replace FR := Lib.hid FR
          clear hX hV hZ
          go_upto_region 10 with (first
            | (go_at_call 151; refine LN.out.mono ?_; rintro e w2 ⟨rfl, hb2⟩; have B2 := Lib.hid (below_step Hbel.out hb2); have R2 := Lib.hid (own_below Hrow.out hb2); have hcv := Lib.run_convert_string_bytes (P := Tryz.prog) w2 9 25 5 S Tryz.underlying9 Tryz.underlying25 Tryz.underlying5; have hrw := RowAt.bytes w2 5 S; have hbb := below_bytesWorld w2 5 S; have hcap := Nat.le_trans (Nat.le_refl _) (grownCap_le_maxLen w2 S.size 0 5 (by simp only [maxLen]; omega)); have hcap2 := grownCap_ge w2 S.size 0 5; have Hrw := Lib.hid hrw; have Hbb := Lib.hid hbb; clear hb2 hrw hbb; generalize Lib.bytesWorld w2 5 S = W1 at *; generalize grownCap w2 S.size 0 5 = C1 at *)
            | (go_at_call 152; have hs1 := (Hrw.out.slice (size := 1) (n := S.size) (c := C1) (by rw [bytesV_length, data_len, Nat.mul_one]) hcap2 hcap).alloc (Nat.le_refl _) (.cells #[.int .u8 58] 5 (1, 2)); rw [HSd.out] at hs1; have hs2 := (RowAt.lit W1 5 [.int .u8 58]).slice (size := 1) (n := 1) (c := 1) rfl (Nat.le_refl _) (by simp [maxLen]); obtain ⟨A4, n4, C4, A5, n5, C5, hcut, h4, h5⟩ := cut_val hs1; have B3 := Lib.hid ((below_step B2.out Hbb.out).alloc (below_step B2.out Hbb.out).size (.cells #[.int .u8 58] 5 (1, 2))); have R3 := Lib.hid ((own_below R2.out Hbb.out).alloc (.cells #[.int .u8 58] 5 (1, 2))); have CU := bCut_at w2.heap.size 0 S.size C1 W1.heap.size 0 1 1 s [58] (W1.alloc (.cells #[.int .u8 58] 5 (1, 2))) (shaped_below Hsh.out B3.out) hs1 hs2 hSb (by omega); rw [hcut, HK.out] at CU; rw [HX.out] at h4; rw [HV.out] at h5; refine CU.mono ?_; rintro e w4 ⟨rfl, q, hw4⟩; have B4 : Hid (Below w.heap.size w w4) := Lib.hid (by rw [hw4]; exact below_drewN B3.out q); have R4 : Hid (w4.ownsRow w.heap.size 74 2 u5 out.length (fldsV out)) := Lib.hid (by rw [hw4]; exact R3.out); have H4 : Hid (SliceIn w4 w4.heap.size 1 A4 n4 C4 (bytesV x)) := Lib.hid (by rw [hw4]; exact (h4.drewN q).more (by simp)); have H5 : Hid (SliceIn w4 w4.heap.size 1 A5 n5 C5 (bytesV v)) := Lib.hid (by rw [hw4]; exact (h5.drewN q).more (by simp)); clear hw4 h4 h5 hcut hs1 hs2 CU))
          go_cut [13] from 14 to 59 (fun s13 wx => ∃ gB, s13 = .pointer (some ⟨gB, 0, none⟩) ∧ RowAt wx gB 74 [.string X, .string Z] ∧ Below w4.heap.size w4 wx)
          case first =>
            refine wp_region_tree (fun W => Below w4.heap.size w4 W) (.take 0 (.take 1 (.take 2 (.take 3 (.node (.fork 4 (.take 5 (.node (.fork 6 (.node (.fork 7 (.done) (.stop))) (.stop)))) (.fork 6 (.node (.fork 4 (.take 5 (.node (.fork 7 (.done) (.stop)))) (.stop))) (.stop)))))))) (by kernel_rfl) (by kernel_rfl) (of_decide_eq_true (by kernel_rfl)) rfl (by kernel_rfl) (below_drewN (Below.refl _ _) 1) ?_
            intro w1 hH
            iterate 4
              refine tree_take (v := ?_) rfl (by rfl) ?_ ?_
              rotate_left
              · intro w2 hSw
                have q1 := run_string_of (P := Tryz.prog) (H4.out.below hSw) 25 9 5 Tryz.underlying25 Tryz.underlying5 Tryz.underlying9
                have q2 := run_string_of (P := Tryz.prog) (H5.out.below hSw) 25 9 5 Tryz.underlying25 Tryz.underlying5 Tryz.underlying9
                rw [HsX.out] at q1
                rw [HsV.out] at q2
                clear hSw
                go_simp
                try with_reducible rfl
              try simp only [Act.put, List.setIfInBounds_toArray, List.set_cons_zero, List.set_cons_succ]
            refine tree_node ?_
            refine tree_move rfl (by rfl) (fun K hK => ?_) ?_
            · go_simp
              (with_reducible refine (TR.out _).mono ?_)
              rintro e w5 ⟨rfl, hb2⟩
              refine hK.out _ _ (below_step hH.out hb2) ?_
              try (replace FB := Lib.hid (FB.out.below hb2 FB.out.lt))
              clear hH hK hb2 K
              intro hH
              try simp only [Act.put, List.setIfInBounds_toArray, List.set_cons_zero, List.set_cons_succ]
              iterate 1
                refine tree_take (v := ?_) rfl (by rfl) ?_ ?_
                rotate_left
                · intro w2 hSw
                  have q1 := run_string_of (P := Tryz.prog) (H4.out.below hSw) 25 9 5 Tryz.underlying25 Tryz.underlying5 Tryz.underlying9
                  have q2 := run_string_of (P := Tryz.prog) (H5.out.below hSw) 25 9 5 Tryz.underlying25 Tryz.underlying5 Tryz.underlying9
                  rw [HsX.out] at q1
                  rw [HsV.out] at q2
                  clear hSw
                  go_simp
                  try with_reducible rfl
                try simp only [Act.put, List.setIfInBounds_toArray, List.set_cons_zero, List.set_cons_succ]
              refine tree_node ?_
              refine tree_move rfl (by rfl) (fun K hK => ?_) ?_
              · go_simp
                refine hK.out _ _ (hH.out.alloc hH.out.size _) ?_
                have FB := Lib.hid (row_at hH 74 [.string ⟨#[]⟩, .string ⟨#[]⟩])
                have HG := Lib.hid hH.out.size
                clear hH hK K
                intro hH
                try simp only [Act.put, List.setIfInBounds_toArray, List.set_cons_zero, List.set_cons_succ]
                refine tree_node ?_
                refine tree_move rfl (by rfl) (fun K hK => ?_) ?_
                · refine wp_store_row 74 _ _ rfl _ _ [.string X, .string Z] [.string ⟨#[]⟩, .string ⟨#[]⟩] rfl rfl (row_size FB.out (by simp)) rfl (by kernel_rfl) (by rw [← HF.out]; exact fldsV_one _) ?_
                  intro w7 hr7 ho7
                  refine hK.out _ _ (ho7.below hH.out (by have := HG.out; first | exact this | (simp at this; omega))) ?_
                  have FR7 := Lib.hid hr7
                  clear hK K hr7 ho7 FB HG
                  intro hH
                  try simp only [Act.put]
                  refine tree_done ?_
                  go_wp2_with fail
                  go_meet
                  exact ⟨_, rfl, FR7.out, hH.out⟩
                exact tree_stop
              exact tree_stop
            refine tree_move rfl (by rfl) (fun K hK => ?_) ?_
            · go_simp
              refine hK.out _ _ (hH.out.alloc hH.out.size _) ?_
              have FB := Lib.hid (row_at hH 74 [.string ⟨#[]⟩, .string ⟨#[]⟩])
              have HG := Lib.hid hH.out.size
              clear hH hK K
              intro hH
              try simp only [Act.put, List.setIfInBounds_toArray, List.set_cons_zero, List.set_cons_succ]
              refine tree_node ?_
              refine tree_move rfl (by rfl) (fun K hK => ?_) ?_
              · go_simp
                (with_reducible refine (TR.out _).mono ?_)
                rintro e w5 ⟨rfl, hb2⟩
                refine hK.out _ _ (below_step hH.out hb2) ?_
                try (replace FB := Lib.hid (FB.out.below hb2 FB.out.lt))
                clear hH hK hb2 K
                intro hH
                try simp only [Act.put, List.setIfInBounds_toArray, List.set_cons_zero, List.set_cons_succ]
                iterate 1
                  refine tree_take (v := ?_) rfl (by rfl) ?_ ?_
                  rotate_left
                  · intro w2 hSw
                    have q1 := run_string_of (P := Tryz.prog) (H4.out.below hSw) 25 9 5 Tryz.underlying25 Tryz.underlying5 Tryz.underlying9
                    have q2 := run_string_of (P := Tryz.prog) (H5.out.below hSw) 25 9 5 Tryz.underlying25 Tryz.underlying5 Tryz.underlying9
                    rw [HsX.out] at q1
                    rw [HsV.out] at q2
                    clear hSw
                    go_simp
                    try with_reducible rfl
                  try simp only [Act.put, List.setIfInBounds_toArray, List.set_cons_zero, List.set_cons_succ]
                refine tree_node ?_
                refine tree_move rfl (by rfl) (fun K hK => ?_) ?_
                · refine wp_store_row 74 _ _ rfl _ _ [.string X, .string Z] [.string ⟨#[]⟩, .string ⟨#[]⟩] rfl rfl (row_size FB.out (by simp)) rfl (by kernel_rfl) (by rw [← HF.out]; exact fldsV_one _) ?_
                  intro w7 hr7 ho7
                  refine hK.out _ _ (ho7.below hH.out (by have := HG.out; first | exact this | (simp at this; omega))) ?_
                  have FR7 := Lib.hid hr7
                  clear hK K hr7 ho7 FB HG
                  intro hH
                  try simp only [Act.put]
                  refine tree_done ?_
                  go_wp2_with fail
                  go_meet
                  exact ⟨_, rfl, FR7.out, hH.out⟩
                exact tree_stop
              exact tree_stop
            exact tree_stop
          case rest =>
            obtain ⟨gB, rfl, hrB, hb5⟩ := hcut
            have c0 := hrB.cell (j := 0) rfl
            have c1 := hrB.cell (j := 1) rfl
            have B5 := Lib.hid (below_step B4.out hb5)
            have R5 := Lib.hid (own_below R4.out hb5)
            have HrB := Lib.hid hrB
            clear hrB hb5 TR kc hcap hcap2
            cases ok
            · have hu := HU.out
              rw [if_neg (fun h => by cases h.1)] at hu
              simp only at hu
              have Hu := Lib.hid hu
              clear hu
              go_wp2_with fail
              go_ret3
              exact ⟨_, by rw [Hu.out]; rfl, by rw [Hu.out]; exact World.ownsRow_nil _ _ _ _, B5.out⟩
            · cases hfit : fit (x, trim v)
              · have hu := HU.out
                rw [if_neg (fun h => by rw [hfit] at h; cases h.2)] at hu
                simp only at hu
                have Hu := Lib.hid hu
                rw [hfit] at FR
                clear hu hfit
                go_wp2_with (go_at_call 131; refine (FR.out _).mono ?_; rintro e w6 ⟨rfl, hb6⟩)
                go_ret3
                exact ⟨_, by rw [Hu.out]; rfl, by rw [Hu.out]; exact World.ownsRow_nil _ _ _ _, below_step B5.out hb6⟩
              · have hu := HU.out
                rw [if_pos ⟨rfl, hfit⟩] at hu
                simp only at hu
                rw [hfit] at FR
                by_cases h128 : out.length = 128
                · rw [if_pos h128] at hu
                  have Hu := Lib.hid hu
                  have h128b : ((out.length : Int) == 128) = true := by rw [beq_iff_eq]; omega
                  obtain ⟨AO, CO, rfl, hslO⟩ := own_slice R5.out
                  clear hu hfit h128 hslO
                  go_wp2_with (go_at_call 131; refine (FR.out _).mono ?_; rintro e w6 ⟨rfl, hb6⟩)
                  go_ret3
                  exact ⟨_, by rw [Hu.out]; rfl, by rw [Hu.out]; exact World.ownsRow_nil _ _ _ _, below_step B5.out hb6⟩
                · rw [if_neg h128] at hu
                  have Hu := Lib.hid hu
                  have h128b : ((out.length : Int) == 128) = false := by rw [beq_eq_false_iff_ne]; omega
                  have Hlt : Hid (out.length < 128) := Lib.hid (by omega)
                  obtain ⟨AO, CO, rfl, hslO⟩ := own_slice R5.out
                  clear hu hfit hslO h128
                  go_wp2_with (first
                    | (go_at_call 131; refine (FR.out _).mono ?_; rintro e w6 ⟨rfl, hb6⟩; have d0 := (HrB.out.below hb6 HrB.out.lt).cell (j := 0) rfl; have d1 := (HrB.out.below hb6 HrB.out.lt).cell (j := 1) rfl; have R6 := Lib.hid (own_below R5.out hb6); have B6 := Lib.hid (below_step B5.out hb6); have hB6 := B6.out.size; clear hb6)
                    | (at_builtin; refine wpList_app fld_ty rfl _ _ rfl w.heap.size _ _ _ rfl R6.out 1 1 [.string X, .string Z] rfl (by rfl) (by rw [← HF.out]; exact fldsV_one _) (by omega) (by simp only [maxLen]; omega) hB6 ?_; intro v' w7 hown' hgr))
                  go_roundw
                  case rel =>
                    refine ⟨next, out ++ [(x, trim v)], rfl, hnb, by have := Hlt.out; simp; omega, Hu.out, ?_, B6.out.grown hgr hB6 (fun g hg => (R6.out.lt g hg).1)⟩
                    rw [fldsV_append, List.length_append, HF.out]
                    exact hown'
                  case measure => simp [intOf]; omega
end Go.Proofs.YtniiadhhefgmcaaGreatDoor

/- Walk of layer 3's document: a header, read. Condition: at most 65535 octets. -/
namespace Go.Proofs.YtniiadhhefgmcaaGreatDoor
open Go.RowKit IH
set_option maxRecDepth 100000
end Go.Proofs.YtniiadhhefgmcaaGreatDoor

/- Walks of layer 3: what is wrong with fields; fields as a header. Condition: at most 10^6 fields, texts within 10^9 octets. -/
namespace Go.Proofs.YtniiadhhefgmcaaGreatDoor
open Go.RowKit IH
set_option maxRecDepth 100000
theorem strCells_bytes (s : ByteArray) : Lib.strCells s = bytesV s.data.toList := by
  simp [Lib.strCells, bytesV, byteV]
theorem wp_app_str {w : World} {o : Oper} {a : Act} {K : Act → World → Prop} {Q : Exit → Act → World → Prop} (sl x : Operand)
    (ho : o.op = .call { callee := .builtin .append, args := #[sl, x], argTypes := #[25, 9] })
    (base : Nat) (v : Value) (n : Nat) (l : List UInt8) (hs : a.eval sl = v) (hown : w.ownsRow base 5 1 v n (bytesV l)) (s : ByteArray) (hx : a.eval x = .string s)
    (hb : n + s.size ≤ 140737488355328) (hbase : base ≤ w.heap.size)
    (h : ∀ v' w', w'.ownsRow base 5 1 v' (n + s.size) (bytesV (l ++ s.data.toList)) → w.grownBy w' v.ownBlock → K (a.put o.dst v') w') : o.wp Tryz.prog a w K Q := by
  obtain ⟨i0, hi, hz0, hz1, hz2⟩ := info_parts u8_ty.hi
  obtain ⟨v', w', hr, h2, h3, h4⟩ := Lib.run_append_own_string (P := Tryz.prog) w base 25 9 o.type 5 i0 Tryz.underlying25 Tryz.underlying9 hi hz0 hz1 hz2 v n (bytesV l) hown s (by simp only [maxLen]; omega) hb hbase
  rw [strCells_bytes, ← bytesV_append] at h2
  unfold Oper.wp execOp
  simp only [ho, resolve, invoke, builtin, Sem.run_bind, Sem.run_pure, Result.andThen_ok, List.map_toArray, List.map_cons, List.map_nil, hs, hx, hr]
  exact h v' w' h2 h3
theorem wpList_app_str {w : World} {ops : Array Oper} {rest : List Oper} {o : Oper} {a : Act} {Q : Exit → Act → World → Prop} (hgd : o.guard = none) (sl x : Operand)
    (ho : o.op = .call { callee := .builtin .append, args := #[sl, x], argTypes := #[25, 9] })
    (base : Nat) (v : Value) (n : Nat) (l : List UInt8) (hs : a.eval sl = v) (hown : w.ownsRow base 5 1 v n (bytesV l)) (s : ByteArray) (hx : a.eval x = .string s)
    (hb : n + s.size ≤ 140737488355328) (hbase : base ≤ w.heap.size)
    (h : ∀ v' w', w'.ownsRow base 5 1 v' (n + s.size) (bytesV (l ++ s.data.toList)) → w.grownBy w' v.ownBlock → wpList Tryz.prog ops Q rest (a.put o.dst v') w') : wpList Tryz.prog ops Q (o :: rest) a w :=
  wpList_plain hgd fun _ hK => wp_app_str sl x ho base v n l hs hown s hx hb hbase fun v' w' h2 h3 => hK _ _ (h v' w' h2 h3)
theorem ne_type {w : World} {g base size n : Nat} {e e' : TypeId} {cs xs : List Value} {v : Value} (hown : w.ownsRow base e' size v n xs) (hr : RowAt w g e cs) (hne : e ≠ e') : ∀ q, v.ownBlock = some q → q ≠ g := by
  intro q hq he
  subst he
  rcases hown.2 with ⟨rfl, _⟩ | ⟨g', cap, cur, rfl, _, hh, _⟩
  · cases hq
  · simp only [Value.ownBlock, Option.some.injEq] at hq
    subst hq
    obtain ⟨cur2, lo, hi, hh2, _⟩ := hr
    rw [hh] at hh2
    simp only [Option.some.injEq, Obj.cells.injEq] at hh2
    exact hne hh2.2.1.symm
theorem own_count {w : World} {base size n m : Nat} {e : TypeId} {v : Value} {xs : List Value} (h : w.ownsRow base e size v n xs) (hn : n = m) : w.ownsRow base e size v m xs := hn ▸ h
theorem lines_length (L : List Fld) : (L.flatMap line1).length + 2 = sizeL L := by
  have := printL_length L
  unfold printL at this
  rw [List.length_append] at this
  simpa using this
theorem lines_snoc (L : List Fld) (k : Nat) (f : Fld) (hk : L[k]? = some f) : (L.take (k + 1)).flatMap line1 = (L.take k).flatMap line1 ++ (f.1 ++ [58, 32] ++ f.2 ++ [13, 10]) := by
  rw [List.take_add_one, hk]
  simp [line1]
set_option maxHeartbeats 4000000 in
theorem fault_any (A : Option Addr) (n c : Nat) (L : List Fld) (w : World) (hin : SliceIn w w.heap.size 2 A n c (fldsV L)) (hs : n ≤ 1000000) (hm : smallF 1000000000 L) :
    Calls Tryz.prog 108 #[.slice A n c] w fun e w' => e = .returned (.int .i64 (faultL L)) ∧ Below w.heap.size w w' := by
  have hL := fld_count hin
  have CF := ContainsFault_any A n c L w hin hs hm
  have SZ := fun w1 (hb : Below w.heap.size w w1) => fsize_any A n c L w1 ((hin.below hb).more hb.size) hs hm
  have e1 : L.any unfit = L.any (fun f => !fit f) := rfl
  rw [e1] at CF
  have hsb := sizeL_bd 1000000000 L hm
  rw [hL] at hsb
  unfold faultL
  rw [hL]
  generalize sizeL L = z at *
  clear hin hm e1
  replace SZ := Lib.hid SZ
  cases hb : L.any (fun f => !fit f)
  · rw [if_neg (by simp)]
    rw [hb] at CF
    replace CF := Lib.hid CF
    clear hb
    by_cases h1 : 128 < n
    · rw [if_pos h1]
      have h1I : (128 : Int) < (n : Int) := by omega
      clear h1
      go_enter Tryz.func108, Tryz.ntmps108
      go_wp2_with (go_at_call 129; refine CF.out.mono ?_; rintro e w2 ⟨rfl, hb2⟩)
      go_ret
      exact ⟨rfl, hb2⟩
    · rw [if_neg h1]
      have h1I : (n : Int) ≤ (128 : Int) := by omega
      clear h1
      by_cases h2 : 65536 < z
      · rw [if_pos h2]
        have h2I : (65536 : Int) < (z : Int) := by omega
        clear h2
        go_enter Tryz.func108, Tryz.ntmps108
        go_wp2_with (first
          | (go_at_call 129; refine CF.out.mono ?_; rintro e w2 ⟨rfl, hb2⟩)
          | (go_at_call 132; refine (SZ.out _ hb2).mono ?_; rintro e w3 ⟨rfl, hb3⟩))
        go_ret
        exact ⟨rfl, below_step hb2 hb3⟩
      · rw [if_neg h2]
        have h2I : (z : Int) ≤ (65536 : Int) := by omega
        clear h2
        go_enter Tryz.func108, Tryz.ntmps108
        go_wp2_with (first
          | (go_at_call 129; refine CF.out.mono ?_; rintro e w2 ⟨rfl, hb2⟩)
          | (go_at_call 132; refine (SZ.out _ hb2).mono ?_; rintro e w3 ⟨rfl, hb3⟩))
        go_ret
        exact ⟨rfl, below_step hb2 hb3⟩
  · rw [if_pos rfl]
    rw [hb] at CF
    replace CF := Lib.hid CF
    clear hb
    go_enter Tryz.func108, Tryz.ntmps108
    go_wp2_with (go_at_call 129; refine CF.out.mono ?_; rintro e w2 ⟨rfl, hb2⟩)
    go_ret
    exact ⟨rfl, hb2⟩
theorem fault_zero {L : List Fld} (h : faultL L = 0) : L.length ≤ 128 ∧ sizeL L ≤ 65536 := by
  unfold faultL at h
  split at h
  · cases h
  · split at h
    · cases h
    · split at h
      · cases h
      · omega
set_option maxHeartbeats 4000000 in
theorem fprint_any (A : Option Addr) (n c : Nat) (L : List Fld) (w : World) (hin : SliceIn w w.heap.size 2 A n c (fldsV L)) (hs : n ≤ 1000000) (hm : smallF 1000000000 L) :
    Calls Tryz.prog 74 #[.slice A n c] w fun e w' => ∃ v, e = .returned (.tuple #[v, .int .i64 (faultL L)]) ∧ w'.ownsRow w.heap.size 5 1 v (if faultL L = 0 then printL L else []).length (bytesV (if faultL L = 0 then printL L else [])) ∧ Below w.heap.size w w' := by
  have hL := fld_count hin
  have FA := fault_any A n c L w hin hs hm
  by_cases h0 : faultL L = 0
  · obtain ⟨z1, z2⟩ := fault_zero h0
    rw [if_pos h0, h0]
    rw [h0] at FA
    have HFA := Lib.hid FA
    have Hin := Lib.hid hin
    have HL := Lib.hid hL
    have Hz := Lib.hid z2
    clear FA hin h0 z2 hL
    go_enter Tryz.func74, Tryz.ntmps74
    go_wp2_with (go_at_call 108; refine HFA.out.mono ?_; rintro e w1 ⟨rfl, hb1⟩; have B1 := Lib.hid hb1; clear hb1)
    go_loopw [5, 15] (fun v i wr => ∃ k : Nat, k ≤ n ∧ i = .int .i64 k ∧ wr.ownsRow w.heap.size 5 1 v ((L.take k).flatMap line1).length (bytesV ((L.take k).flatMap line1)) ∧ Below w.heap.size w wr) (fun _ i _ => n - (intOf i).toNat)
    case atStart => exact ⟨0, by omega, rfl, World.ownsRow_nil _ _ _ _, B1.out⟩
    case round =>
      clear B1 HFA
      obtain ⟨k, hk, rfl, hrow, hbel⟩ := hrel
      have Hrow := Lib.hid hrow
      clear hrow
      by_cases hlt : k < n
      · obtain ⟨f, hf⟩ : ∃ f, L[k]? = some f := ⟨_, List.getElem?_eq_getElem (by rw [HL.out]; omega)⟩
        obtain ⟨b, off, rfl, hb, c0, c1⟩ := fld_at (Hin.out.below hbel) hf
        have hsn := lines_snoc L k f hf
        have hlen := lines_length (L.take k)
        have hsz := sizeL_snoc L k f hf
        have hmo := sizeL_mono L (k + 1)
        have hz := Hz.out
        obtain ⟨X, hX⟩ : ∃ X : ByteArray, (⟨f.1.toArray⟩ : ByteArray) = X := ⟨_, rfl⟩
        obtain ⟨Y, hY⟩ : ∃ Y : ByteArray, (⟨f.2.toArray⟩ : ByteArray) = Y := ⟨_, rfl⟩
        have hXs : X.size = f.1.length := by rw [← hX, size_mk]
        have hYs : Y.size = f.2.length := by rw [← hY, size_mk]
        have hXd : X.data.toList = f.1 := by rw [← hX]
        have hYd : Y.data.toList = f.2 := by rw [← hY]
        obtain ⟨P0, hP0⟩ : ∃ P0, (L.take k).flatMap line1 = P0 := ⟨_, rfl⟩
        rw [hP0] at hsn hlen Hrow
        rw [hX] at c0
        rw [hY] at c1
        have k1 : P0.length ≤ 65536 := by omega
        have k2 : X.size ≤ 65536 := by omega
        have k3 : Y.size ≤ 65536 := by omega
        have hnx : (L.take (k + 1)).flatMap line1 = (((P0 ++ X.data.toList) ++ [58, 32]) ++ Y.data.toList) ++ [13, 10] := by rw [hsn, hXd, hYd]; simp
        have Hnx := Lib.hid hnx
        clear hsn hlen hsz hmo hz hX hY hXs hYs hXd hYd hP0 hnx hf
        go_upto_region 8 with fail
        have FO : Hid ((wr.alloc (.cells #[.string X, .string Y] 74)).drew.ownsRow w.heap.size 5 1 _ P0.length (bytesV P0)) := Lib.hid (Hrow.out.alloc (.cells #[.string X, .string Y] 74))
        have hbs := hbel.size
        refine wp_region_tree0 (fun W => Below w.heap.size w W ∧ RowAt W wr.heap.size 74 [.string X, .string Y]) (.take 0 (.take 1 (.take 2 (.take 5 (.take 6 (.node (.fork 3 (.node (.fork 4 (.node (.fork 7 (.node (.fork 8 (.take 9 (.done)) (.stop))) (.stop))) (.stop))) (.stop)))))))) (by kernel_rfl) (by kernel_rfl) (of_decide_eq_true (by kernel_rfl)) rfl (by kernel_rfl) (⟨below_drewN (hbel.alloc hbs _) 1, (RowAt.new wr 74 [.string X, .string Y]).drewN 1⟩) ?_
        intro hH
        iterate 5
          refine tree_take (v := ?_) rfl (by rfl) ?_ ?_
          rotate_left
          · intro w2 hSw
            have e0 := hSw.2.cell (j := 0) rfl
            have e1 := hSw.2.cell (j := 1) rfl
            clear hSw
            go_simp
            try with_reducible rfl
          try simp only [Act.put, List.setIfInBounds_toArray, List.set_cons_zero, List.set_cons_succ]
        refine tree_node ?_
        refine tree_move rfl (by rfl) (fun K hK => ?_) ?_
        · refine wp_app_str _ _ rfl w.heap.size _ _ P0 rfl FO.out X rfl (by omega) hH.out.1.size ?_
          intro v3 w3 hown3 hgr3
          refine hK.out _ _ (⟨hH.out.1.grown hgr3 hH.out.1.size (fun q hq => (FO.out.lt q hq).1), row_grown hH.out.2 hgr3 (ne_type FO.out hH.out.2 (by decide))⟩) ?_
          replace FO := Lib.hid hown3
          clear hH hK K hown3 hgr3
          intro hH
          try simp only [Act.put, List.setIfInBounds_toArray, List.set_cons_zero, List.set_cons_succ]
          refine tree_node ?_
          refine tree_move rfl (by rfl) (fun K hK => ?_) ?_
          · refine wp_app_str _ _ rfl w.heap.size _ _ _ rfl FO.out ⟨#[58, 32]⟩ rfl (by simp [mk_size]; omega) hH.out.1.size ?_
            intro v3 w3 hown3 hgr3
            refine hK.out _ _ (⟨hH.out.1.grown hgr3 hH.out.1.size (fun q hq => (FO.out.lt q hq).1), row_grown hH.out.2 hgr3 (ne_type FO.out hH.out.2 (by decide))⟩) ?_
            replace FO := Lib.hid hown3
            clear hH hK K hown3 hgr3
            intro hH
            try simp only [Act.put, List.setIfInBounds_toArray, List.set_cons_zero, List.set_cons_succ]
            refine tree_node ?_
            refine tree_move rfl (by rfl) (fun K hK => ?_) ?_
            · refine wp_app_str _ _ rfl w.heap.size _ _ _ rfl FO.out Y rfl (by simp [mk_size]; omega) hH.out.1.size ?_
              intro v3 w3 hown3 hgr3
              refine hK.out _ _ (⟨hH.out.1.grown hgr3 hH.out.1.size (fun q hq => (FO.out.lt q hq).1), row_grown hH.out.2 hgr3 (ne_type FO.out hH.out.2 (by decide))⟩) ?_
              replace FO := Lib.hid hown3
              clear hH hK K hown3 hgr3
              intro hH
              try simp only [Act.put, List.setIfInBounds_toArray, List.set_cons_zero, List.set_cons_succ]
              refine tree_node ?_
              refine tree_move rfl (by rfl) (fun K hK => ?_) ?_
              · refine wp_app_str _ _ rfl w.heap.size _ _ _ rfl FO.out ⟨#[13, 10]⟩ rfl (by simp [mk_size]; omega) hH.out.1.size ?_
                intro v3 w3 hown3 hgr3
                refine hK.out _ _ (⟨hH.out.1.grown hgr3 hH.out.1.size (fun q hq => (FO.out.lt q hq).1), row_grown hH.out.2 hgr3 (ne_type FO.out hH.out.2 (by decide))⟩) ?_
                replace FO := Lib.hid hown3
                clear hH hK K hown3 hgr3
                intro hH
                try simp only [Act.put, List.setIfInBounds_toArray, List.set_cons_zero, List.set_cons_succ]
                iterate 1
                  refine tree_take (v := ?_) rfl (by rfl) ?_ ?_
                  rotate_left
                  · intro w2 hSw
                    have e0 := hSw.2.cell (j := 0) rfl
                    have e1 := hSw.2.cell (j := 1) rfl
                    clear hSw
                    go_simp
                    try with_reducible rfl
                  try simp only [Act.put, List.setIfInBounds_toArray, List.set_cons_zero, List.set_cons_succ]
                refine tree_done ?_
                have B9 := Lib.hid hH.out.1
                clear hH
                go_wp2
                go_roundw
                case rel => exact ⟨k + 1, by omega, by go_num, by rw [Hnx.out]; exact own_count FO.out (by simp [mk_size]; omega), B9.out⟩
                case measure => simp [intOf]; omega
              exact tree_stop
            exact tree_stop
          exact tree_stop
        exact tree_stop
      · obtain rfl : k = n := by omega
        have e : L.take k = L := List.take_of_length_le (by rw [HL.out]; omega)
        rw [e] at Hrow
        have hlen := lines_length L
        have hz := Hz.out
        have k1 : (L.flatMap line1).length ≤ 65536 := by omega
        have hbs := hbel.size
        obtain ⟨PL, hPL⟩ : ∃ PL, L.flatMap line1 = PL := ⟨_, rfl⟩
        rw [hPL] at Hrow k1
        have HPL := Lib.hid hPL
        clear e hlen hz hPL
        go_wp2_with (at_builtin; refine wpList_app_str rfl _ _ rfl w.heap.size _ _ _ rfl Hrow.out ⟨#[13, 10]⟩ rfl (by simp [mk_size]; omega) hbs ?_; intro v3 w3 hown3 hgr3)
        go_ret2
        refine ⟨_, rfl, ?_, hbel.grown hgr3 hbs (fun q hq => (Hrow.out.lt q hq).1)⟩
        unfold printL
        rw [HPL.out, List.length_append]
        exact hown3
  · rw [if_neg h0]
    have hne : (faultL L != 0) = true := by rw [bne, Bool.not_eq_true', beq_eq_false_iff_ne]; exact h0
    generalize faultL L = fl at *
    have HFA := Lib.hid FA
    clear FA hin h0 hm
    go_enter Tryz.func74, Tryz.ntmps74
    go_wp2_with (go_at_call 108; refine HFA.out.mono ?_; rintro e w1 ⟨rfl, hb1⟩)
    go_ret2
    exact ⟨_, rfl, World.ownsRow_nil _ _ _ _, hb1⟩
end Go.Proofs.YtniiadhhefgmcaaGreatDoor

