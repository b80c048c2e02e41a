/- Eb: several texts, one behind the other. -/
import Derived.Test.YtkodeeneljkgeaaDoorEa
import Derived.Test.YtkodeeneljkgeaaDoorFq
import Derived.Laws.StructEq
import Derived.Test.YtkodeeneljkgeaaDoorApw
import Derived.Test.YtkodeeneljkgeaaDoorEs
import Derived.Deep.RegionLaw
/- Layer 19: structs compared; slices compared by package slices and by the document. Condition: lengths within 10^9. -/
namespace Go.Proofs.YtkodeeneljkgeaaDoor
open Go.RowKit IH
set_option maxRecDepth 100000
theorem snoc_take {α : Type} {l m : List α} {k : Nat} {x : α} (hx : l[k]? = some x) (hy : m[k]? = some x) (h : l.take k = m.take k) : l.take (k + 1) = m.take (k + 1) := by
  rw [List.take_add_one, List.take_add_one, hx, hy, h]
theorem apart_at {α : Type} {l m : List α} {k : Nat} {x y : α} (hx : l[k]? = some x) (hy : m[k]? = some y) (h : x ≠ y) : l ≠ m := by
  rintro rfl
  rw [hx] at hy
  exact h (Option.some.inj hy)
theorem all_take {α : Type} {l m : List α} {k : Nat} (hl : l.length = k) (hm : m.length = k) (h : l.take k = m.take k) : l = m := by
  rwa [List.take_of_length_le (by omega), List.take_of_length_le (by omega)] at h
theorem neq_of_eql {P : Program} {t : TypeId} {xs ys : Array Value} {w : World} {b : Bool} (h : (binOp .eql t (.agg xs) (.agg ys)).run P w = .ok (.bool b) w) : (binOp .neq t (.agg xs) (.agg ys)).run P w = .ok (.bool (!b)) w := by
  rw [run_eql_struct] at h
  rw [run_neq_struct]
  generalize (Op.equalIn 10000 t (.agg xs) (.agg ys)).run P w = R at h ⊢
  cases R <;> simp_all [Result.andThen]
theorem field_eql (X Y X' Y' : ByteArray) (w : World) : (binOp .eql 58 (.agg #[.string X, .string Y]) (.agg #[.string X', .string Y'])).run Tryd.prog w = .ok (.bool ((X.toList == X'.toList) && (Y.toList == Y'.toList))) w := by
  have u2 := Tryd.underlying9
  have hS : Program.underlying Tryd.prog 58 = some (.struct (Program.fieldsOf Tryd.prog 58)) := by kernel_rfl
  have hp : Program.stoodInHeld Tryd.prog 58 = false := by kernel_rfl
  rw [run_eql_struct, show (10000 : Nat) = 9999 + 1 from rfl, run_equalIn_agg w 9999 58 _ _ hS hp]
  simp only [Program.fieldsOf, Tryd.underlying58]
  obtain ⟨b1, h1⟩ : ∃ b, (X.toList == X'.toList) = b := ⟨_, rfl⟩
  obtain ⟨b2, h2⟩ : ∃ b, (Y.toList == Y'.toList) = b := ⟨_, rfl⟩
  rw [h1, h2]
  cases b1
  · go_simp
  · cases b2
    · go_simp
    · go_simp
theorem ext_eql (p q p' q' : Int) (w : World) : (binOp .eql 60 (.agg #[.int .i64 p, .int .i64 q]) (.agg #[.int .i64 p', .int .i64 q'])).run Tryd.prog w = .ok (.bool ((p == p') && (q == q'))) w := by
  have u2 := Tryd.underlying3
  have hS : Program.underlying Tryd.prog 60 = some (.struct (Program.fieldsOf Tryd.prog 60)) := by kernel_rfl
  have hp : Program.stoodInHeld Tryd.prog 60 = false := by kernel_rfl
  rw [run_eql_struct, show (10000 : Nat) = 9999 + 1 from rfl, run_equalIn_agg w 9999 60 _ _ hS hp]
  simp only [Program.fieldsOf, Tryd.underlying60]
  obtain ⟨b1, h1⟩ : ∃ b, (p == p') = b := ⟨_, rfl⟩
  obtain ⟨b2, h2⟩ : ∃ b, (q == q') = b := ⟨_, rfl⟩
  rw [h1, h2]
  cases b1
  · go_simp
  · cases b2
    · go_simp
    · go_simp
theorem times_eql (p q p' q' : Int) (w : World) : (binOp .eql 29 (.agg #[.int .i64 p, .int .i64 q]) (.agg #[.int .i64 p', .int .i64 q'])).run Tryd.prog w = .ok (.bool ((p == p') && (q == q'))) w := by
  have u2 := Tryd.underlying3
  have hS : Program.underlying Tryd.prog 29 = some (.struct (Program.fieldsOf Tryd.prog 29)) := by kernel_rfl
  have hp : Program.stoodInHeld Tryd.prog 29 = false := by kernel_rfl
  rw [run_eql_struct, show (10000 : Nat) = 9999 + 1 from rfl, run_equalIn_agg w 9999 29 _ _ hS hp]
  simp only [Program.fieldsOf, Tryd.underlying29]
  obtain ⟨b1, h1⟩ : ∃ b, (p == p') = b := ⟨_, rfl⟩
  obtain ⟨b2, h2⟩ : ∃ b, (q == q') = b := ⟨_, rfl⟩
  rw [h1, h2]
  cases b1
  · go_simp
  · cases b2
    · go_simp
    · go_simp
theorem start_eql (M T R M' T' R' : ByteArray) (st mi st' mi' : Int) (w : World) : (binOp .eql 26 (.agg #[.string M, .string T, .int .i64 st, .string R, .int .i64 mi]) (.agg #[.string M', .string T', .int .i64 st', .string R', .int .i64 mi'])).run Tryd.prog w = .ok (.bool ((M.toList == M'.toList) && ((T.toList == T'.toList) && ((st == st') && ((R.toList == R'.toList) && (mi == mi')))))) w := by
  have u1 := Tryd.underlying9
  have u2 := Tryd.underlying3
  have hS : Program.underlying Tryd.prog 26 = some (.struct (Program.fieldsOf Tryd.prog 26)) := by kernel_rfl
  have hp : Program.stoodInHeld Tryd.prog 26 = false := by kernel_rfl
  rw [run_eql_struct, show (10000 : Nat) = 9999 + 1 from rfl, run_equalIn_agg w 9999 26 _ _ hS hp]
  simp only [Program.fieldsOf, Tryd.underlying26]
  obtain ⟨b1, h1⟩ : ∃ b, (M.toList == M'.toList) = b := ⟨_, rfl⟩
  obtain ⟨b2, h2⟩ : ∃ b, (T.toList == T'.toList) = b := ⟨_, rfl⟩
  obtain ⟨b3, h3⟩ : ∃ b, (st == st') = b := ⟨_, rfl⟩
  obtain ⟨b4, h4⟩ : ∃ b, (R.toList == R'.toList) = b := ⟨_, rfl⟩
  obtain ⟨b5, h5⟩ : ∃ b, (mi == mi') = b := ⟨_, rfl⟩
  rw [h1, h2, h3, h4, h5]
  cases b1
  · go_simp
  cases b2
  · go_simp
  cases b3
  · go_simp
  cases b4
  · go_simp
  cases b5
  · go_simp
  · go_simp
theorem toList_mk (l : List UInt8) : (⟨l.toArray⟩ : ByteArray).toList = l := by rw [ByteArray.toList_eq]
set_option maxHeartbeats 4000000 in
theorem sEqual_strs (A1 A2 : Option Addr) (n c m d : Nat) (L M : List (List UInt8)) (w : World) (h1 : SliceIn w w.heap.size 1 A1 n c (strsV L)) (h2 : SliceIn w w.heap.size 1 A2 m d (strsV M)) (hn : n ≤ 1000000000) :
    Calls Tryd.prog 24 #[.slice A1 n c, .slice A2 m d] w fun e w' => e = .returned (.bool (L == M)) ∧ ∃ q, w' = w.drewN q := by
  have l1 : L.length = n := by have := h1.1; rw [strsV_length] at this; omega
  have l2 : M.length = m := by have := h2.1; rw [strsV_length] at this; omega
  by_cases hnm : n = m
  · subst hnm
    obtain ⟨t, ht⟩ : ∃ t, (L == M) = t := ⟨_, rfl⟩
    have HT0 := Lib.hid ht
    have L1 := Lib.hid l1
    have L2 := Lib.hid l2
    rw [ht]
    clear ht l1 l2
    go_enter Tryd.func24, Tryd.ntmps24
    go_wp2
    go_loopw [13] (fun i wr => ∃ k q : Nat, k ≤ n ∧ i = .int .i64 k ∧ L.take k = M.take k ∧ wr = w.drewN q) (fun i _ => n - (intOf i).toNat)
    case atStart => exact ⟨0, 0, by omega, rfl, rfl, rfl⟩
    case round =>
      obtain ⟨k, q, hk, rfl, ht, rfl⟩ := hrel
      have HT := Lib.hid ht
      clear ht
      by_cases hlt : k < n
      · obtain ⟨x, hx⟩ : ∃ x, L[k]? = some x := ⟨_, List.getElem?_eq_getElem (by rw [L1.out]; exact hlt)⟩
        obtain ⟨y, hy⟩ : ∃ y, M[k]? = some y := ⟨_, List.getElem?_eq_getElem (by rw [L2.out]; exact hlt)⟩
        obtain ⟨b1, o1, rfl, _, hc1⟩ := h1.2.2.2 (by omega)
        obtain ⟨b2, o2, rfl, _, hc2⟩ := h2.2.2.2 (by omega)
        have v1 := hc1 k (.string ⟨x.toArray⟩) (by simp [strsV, hx])
        have v2 := hc2 k (.string ⟨y.toArray⟩) (by simp [strsV, hy])
        clear hc1 hc2
        have ltI : (k : Int) < (n : Int) := by omega
        have EQ : ((⟨x.toArray⟩ : ByteArray).toList == (⟨y.toArray⟩ : ByteArray).toList) = decide (x = y) := by rw [toList_mk, toList_mk]; exact Bool.eq_iff_iff.2 (by simp)
        have NE : ((⟨x.toArray⟩ : ByteArray).toList != (⟨y.toArray⟩ : ByteArray).toList) = !decide (x = y) := by rw [bne, EQ]
        generalize (⟨x.toArray⟩ : ByteArray) = X at *
        generalize (⟨y.toArray⟩ : ByteArray) = Y at *
        by_cases hxy : x = y
        · rw [decide_eq_true hxy, Bool.not_true] at NE
          rw [decide_eq_true hxy] at EQ
          have HN := Lib.hid (snoc_take (by rw [← hxy]; exact hx : L[k]? = some y) hy HT.out)
          clear hx hy hxy
          go_wp2
          go_quiet (fail)
          go_wp2
          go_roundw
          case rel => exact ⟨k + 1, _, by omega, by go_num, HN.out, rfl⟩
          case measure => simp [intOf]; omega
        · rw [decide_eq_false hxy, Bool.not_false] at NE
          rw [decide_eq_false hxy] at EQ
          have e0 := HT0.out.symm.trans (beq_eq_false_iff_ne.2 (apart_at hx hy hxy))
          subst e0
          clear hx hy hxy
          go_wp2
          go_quiet (fail)
          go_wp2
          go_ret
          exact ⟨rfl, _, World.drewN_drewN _ _ _⟩
      · obtain rfl : n = k := by omega
        have e0 := HT0.out.symm.trans (beq_iff_eq.2 (all_take L1.out L2.out HT.out))
        subst e0
        clear hlt
        go_wp2
        go_ret
        exact ⟨rfl, q, rfl⟩
  · have e0 : (L == M) = false := by rw [beq_eq_false_iff_ne]; rintro rfl; omega
    have hne : ((n : Int) == (m : Int)) = false := by rw [beq_eq_false_iff_ne]; omega
    have hne2 : ((n : Int) != (m : Int)) = true := by rw [bne_iff_ne]; omega
    rw [e0]
    clear e0 l1 l2 hnm
    go_enter Tryd.func24, Tryd.ntmps24
    go_wp2
    go_ret
    exact ⟨rfl, 0, rfl⟩
set_option maxHeartbeats 4000000 in
theorem sEqual_flds (A1 A2 : Option Addr) (n c m d : Nat) (L M : List Fld) (w : World) (h1 : SliceIn w w.heap.size 2 A1 n c (fldsV L)) (h2 : SliceIn w w.heap.size 2 A2 m d (fldsV M)) (hn : n ≤ 1000000000) :
    Calls Tryd.prog 25 #[.slice A1 n c, .slice A2 m d] w fun e w' => e = .returned (.bool (L == M)) ∧ ∃ q, w' = w.drewN q := by
  have l1 : L.length = n := fld_count h1
  have l2 : M.length = m := fld_count h2
  by_cases hnm : n = m
  · subst hnm
    obtain ⟨t, ht⟩ : ∃ t, (L == M) = t := ⟨_, rfl⟩
    have HT0 := Lib.hid ht
    have L1 := Lib.hid l1
    have L2 := Lib.hid l2
    rw [ht]
    clear ht l1 l2
    go_enter Tryd.func25, Tryd.ntmps25
    go_wp2
    go_loopw [13] (fun i wr => ∃ k q : Nat, k ≤ n ∧ i = .int .i64 k ∧ L.take k = M.take k ∧ wr = w.drewN q) (fun i _ => n - (intOf i).toNat)
    case atStart => exact ⟨0, 0, by omega, rfl, rfl, rfl⟩
    case round =>
      obtain ⟨k, q, hk, rfl, ht, rfl⟩ := hrel
      have HT := Lib.hid ht
      clear ht
      by_cases hlt : k < n
      · obtain ⟨x, hx⟩ : ∃ x, L[k]? = some x := ⟨_, List.getElem?_eq_getElem (by rw [L1.out]; exact hlt)⟩
        obtain ⟨y, hy⟩ : ∃ y, M[k]? = some y := ⟨_, List.getElem?_eq_getElem (by rw [L2.out]; exact hlt)⟩
        obtain ⟨b1, o1, rfl, _, v1, v2⟩ := fld_at h1 hx
        obtain ⟨b2, o2, rfl, _, v3, v4⟩ := fld_at h2 hy
        have ltI : (k : Int) < (n : Int) := by omega
        have NE : ∀ w, (binOp .neq 58 (.agg #[.string ⟨x.1.toArray⟩, .string ⟨x.2.toArray⟩]) (.agg #[.string ⟨y.1.toArray⟩, .string ⟨y.2.toArray⟩])).run Tryd.prog w = .ok (.bool (!decide (x = y))) w := fun w => by
          have e : ((((⟨x.1.toArray⟩ : ByteArray).toList == (⟨y.1.toArray⟩ : ByteArray).toList)) && ((⟨x.2.toArray⟩ : ByteArray).toList == (⟨y.2.toArray⟩ : ByteArray).toList)) = decide (x = y) := by
            rw [toList_mk, toList_mk, toList_mk, toList_mk, Bool.eq_iff_iff]; simp [Prod.ext_iff]
          rw [← e]
          exact neq_of_eql (field_eql _ _ _ _ w)
        generalize (⟨x.1.toArray⟩ : ByteArray) = X1 at *
        generalize (⟨x.2.toArray⟩ : ByteArray) = X2 at *
        generalize (⟨y.1.toArray⟩ : ByteArray) = Y1 at *
        generalize (⟨y.2.toArray⟩ : ByteArray) = Y2 at *
        by_cases hxy : x = y
        · rw [decide_eq_true hxy, Bool.not_true] at NE
          have HN := Lib.hid (snoc_take (by rw [← hxy]; exact hx : L[k]? = some y) hy HT.out)
          clear hx hy hxy
          go_wp2
          go_quiet (fail)
          go_wp2
          go_roundw
          case rel => exact ⟨k + 1, _, by omega, by go_num, HN.out, rfl⟩
          case measure => simp [intOf]; omega
        · rw [decide_eq_false hxy, Bool.not_false] at NE
          have e0 := HT0.out.symm.trans (beq_eq_false_iff_ne.2 (apart_at hx hy hxy))
          subst e0
          clear hx hy hxy
          go_wp2
          go_quiet (fail)
          go_wp2
          go_ret
          exact ⟨rfl, _, World.drewN_drewN _ _ _⟩
      · obtain rfl : n = k := by omega
        have e0 := HT0.out.symm.trans (beq_iff_eq.2 (all_take L1.out L2.out HT.out))
        subst e0
        clear hlt
        go_wp2
        go_ret
        exact ⟨rfl, q, rfl⟩
  · have e0 : (L == M) = false := by rw [beq_eq_false_iff_ne]; rintro rfl; omega
    have hne : ((n : Int) == (m : Int)) = false := by rw [beq_eq_false_iff_ne]; omega
    have hne2 : ((n : Int) != (m : Int)) = true := by rw [bne_iff_ne]; omega
    rw [e0]
    clear e0 l1 l2 hnm
    go_enter Tryd.func25, Tryd.ntmps25
    go_wp2
    go_ret
    exact ⟨rfl, 0, rfl⟩
set_option maxHeartbeats 4000000 in
theorem sEqual_exts (A1 A2 : Option Addr) (n c m d : Nat) (L M : List (Int × Int)) (w : World) (h1 : SliceIn w w.heap.size 2 A1 n c (extsV L)) (h2 : SliceIn w w.heap.size 2 A2 m d (extsV M)) (hn : n ≤ 1000000000) :
    Calls Tryd.prog 26 #[.slice A1 n c, .slice A2 m d] w fun e w' => e = .returned (.bool (L == M)) ∧ ∃ q, w' = w.drewN q := by
  have l1 : L.length = n := ext_count h1
  have l2 : M.length = m := ext_count h2
  by_cases hnm : n = m
  · subst hnm
    obtain ⟨t, ht⟩ : ∃ t, (L == M) = t := ⟨_, rfl⟩
    have HT0 := Lib.hid ht
    have L1 := Lib.hid l1
    have L2 := Lib.hid l2
    rw [ht]
    clear ht l1 l2
    go_enter Tryd.func26, Tryd.ntmps26
    go_wp2
    go_loopw [13] (fun i wr => ∃ k q : Nat, k ≤ n ∧ i = .int .i64 k ∧ L.take k = M.take k ∧ wr = w.drewN q) (fun i _ => n - (intOf i).toNat)
    case atStart => exact ⟨0, 0, by omega, rfl, rfl, rfl⟩
    case round =>
      obtain ⟨k, q, hk, rfl, ht, rfl⟩ := hrel
      have HT := Lib.hid ht
      clear ht
      by_cases hlt : k < n
      · obtain ⟨x, hx⟩ : ∃ x, L[k]? = some x := ⟨_, List.getElem?_eq_getElem (by rw [L1.out]; exact hlt)⟩
        obtain ⟨y, hy⟩ : ∃ y, M[k]? = some y := ⟨_, List.getElem?_eq_getElem (by rw [L2.out]; exact hlt)⟩
        obtain ⟨b1, o1, rfl, _, v1, v2⟩ := ext_at h1 hx
        obtain ⟨b2, o2, rfl, _, v3, v4⟩ := ext_at h2 hy
        have ltI : (k : Int) < (n : Int) := by omega
        have NE : ∀ w, (binOp .neq 60 (.agg #[.int .i64 x.1, .int .i64 x.2]) (.agg #[.int .i64 y.1, .int .i64 y.2])).run Tryd.prog w = .ok (.bool (!decide (x = y))) w := fun w => by
          have e : ((x.1 == y.1) && (x.2 == y.2)) = decide (x = y) := by rw [Bool.eq_iff_iff]; simp [Prod.ext_iff]
          rw [← e]
          exact neq_of_eql (ext_eql _ _ _ _ w)
        obtain ⟨x1, hx1⟩ : ∃ a, x.1 = a := ⟨_, rfl⟩
        obtain ⟨x2, hx2⟩ : ∃ a, x.2 = a := ⟨_, rfl⟩
        obtain ⟨y1, hy1⟩ : ∃ a, y.1 = a := ⟨_, rfl⟩
        obtain ⟨y2, hy2⟩ : ∃ a, y.2 = a := ⟨_, rfl⟩
        rw [hx1] at NE v1
        rw [hx2] at NE v2
        rw [hy1] at NE v3
        rw [hy2] at NE v4
        clear hx1 hx2 hy1 hy2
        by_cases hxy : x = y
        · rw [decide_eq_true hxy, Bool.not_true] at NE
          have HN := Lib.hid (snoc_take (by rw [← hxy]; exact hx : L[k]? = some y) hy HT.out)
          clear hx hy hxy
          go_wp2
          go_quiet (fail)
          go_wp2
          go_roundw
          case rel => exact ⟨k + 1, _, by omega, by go_num, HN.out, rfl⟩
          case measure => simp [intOf]; omega
        · rw [decide_eq_false hxy, Bool.not_false] at NE
          have e0 := HT0.out.symm.trans (beq_eq_false_iff_ne.2 (apart_at hx hy hxy))
          subst e0
          clear hx hy hxy
          go_wp2
          go_quiet (fail)
          go_wp2
          go_ret
          exact ⟨rfl, _, World.drewN_drewN _ _ _⟩
      · obtain rfl : n = k := by omega
        have e0 := HT0.out.symm.trans (beq_iff_eq.2 (all_take L1.out L2.out HT.out))
        subst e0
        clear hlt
        go_wp2
        go_ret
        exact ⟨rfl, q, rfl⟩
  · have e0 : (L == M) = false := by rw [beq_eq_false_iff_ne]; rintro rfl; omega
    have hne : ((n : Int) == (m : Int)) = false := by rw [beq_eq_false_iff_ne]; omega
    have hne2 : ((n : Int) != (m : Int)) = true := by rw [bne_iff_ne]; omega
    rw [e0]
    clear e0 l1 l2 hnm
    go_enter Tryd.func26, Tryd.ntmps26
    go_wp2
    go_ret
    exact ⟨rfl, 0, rfl⟩
set_option maxHeartbeats 4000000 in
theorem refSame3_two (A1 A2 : Option Addr) (n c m d : Nat) (L M : List Fld) (w : World) (h1 : SliceIn w w.heap.size 2 A1 n c (fldsV L)) (h2 : SliceIn w w.heap.size 2 A2 m d (fldsV M)) (hn : n ≤ 1000000000) :
    Calls Tryd.prog 23 #[.slice A1 n c, .slice A2 m d] w fun e w' => e = .returned (.bool (L == M)) ∧ ∃ q, w' = w.drewN q := by
  have l1 : L.length = n := fld_count h1
  have l2 : M.length = m := fld_count h2
  by_cases hnm : n = m
  · subst hnm
    obtain ⟨t, ht⟩ : ∃ t, (L == M) = t := ⟨_, rfl⟩
    have HT0 := Lib.hid ht
    have L1 := Lib.hid l1
    have L2 := Lib.hid l2
    rw [ht]
    clear ht l1 l2
    go_enter Tryd.func23, Tryd.ntmps23
    go_wp2
    go_loopw [5] (fun i wr => ∃ k q : Nat, k ≤ n ∧ i = .int .i64 k ∧ L.take k = M.take k ∧ wr = w.drewN q) (fun i _ => n - (intOf i).toNat)
    case atStart => exact ⟨0, 0, by omega, rfl, rfl, rfl⟩
    case round =>
      obtain ⟨k, q, hk, rfl, ht, rfl⟩ := hrel
      have HT := Lib.hid ht
      clear ht
      by_cases hlt : k < n
      · obtain ⟨x, hx⟩ : ∃ x, L[k]? = some x := ⟨_, List.getElem?_eq_getElem (by rw [L1.out]; exact hlt)⟩
        obtain ⟨y, hy⟩ : ∃ y, M[k]? = some y := ⟨_, List.getElem?_eq_getElem (by rw [L2.out]; exact hlt)⟩
        obtain ⟨b1, o1, rfl, _, v1, v2⟩ := fld_at h1 hx
        obtain ⟨b2, o2, rfl, _, v3, v4⟩ := fld_at h2 hy
        have ltI : (k : Int) < (n : Int) := by omega
        have NE : ∀ w, (binOp .neq 58 (.agg #[.string ⟨x.1.toArray⟩, .string ⟨x.2.toArray⟩]) (.agg #[.string ⟨y.1.toArray⟩, .string ⟨y.2.toArray⟩])).run Tryd.prog w = .ok (.bool (!decide (x = y))) w := fun w => by
          have e : ((((⟨x.1.toArray⟩ : ByteArray).toList == (⟨y.1.toArray⟩ : ByteArray).toList)) && ((⟨x.2.toArray⟩ : ByteArray).toList == (⟨y.2.toArray⟩ : ByteArray).toList)) = decide (x = y) := by
            rw [toList_mk, toList_mk, toList_mk, toList_mk, Bool.eq_iff_iff]; simp [Prod.ext_iff]
          rw [← e]
          exact neq_of_eql (field_eql _ _ _ _ w)
        generalize (⟨x.1.toArray⟩ : ByteArray) = X1 at *
        generalize (⟨x.2.toArray⟩ : ByteArray) = X2 at *
        generalize (⟨y.1.toArray⟩ : ByteArray) = Y1 at *
        generalize (⟨y.2.toArray⟩ : ByteArray) = Y2 at *
        by_cases hxy : x = y
        · rw [decide_eq_true hxy, Bool.not_true] at NE
          have HN := Lib.hid (snoc_take (by rw [← hxy]; exact hx : L[k]? = some y) hy HT.out)
          clear hx hy hxy
          go_wp2
          go_quiet (fail)
          go_wp2
          go_roundw
          case rel => exact ⟨k + 1, _, by omega, by go_num, HN.out, rfl⟩
          case measure => simp [intOf]; omega
        · rw [decide_eq_false hxy, Bool.not_false] at NE
          have e0 := HT0.out.symm.trans (beq_eq_false_iff_ne.2 (apart_at hx hy hxy))
          subst e0
          clear hx hy hxy
          go_wp2
          go_quiet (fail)
          go_wp2
          go_ret
          exact ⟨rfl, _, World.drewN_drewN _ _ _⟩
      · obtain rfl : n = k := by omega
        have e0 := HT0.out.symm.trans (beq_iff_eq.2 (all_take L1.out L2.out HT.out))
        subst e0
        clear hlt
        go_wp2
        go_ret
        exact ⟨rfl, q, rfl⟩
  · have e0 : (L == M) = false := by rw [beq_eq_false_iff_ne]; rintro rfl; omega
    have hne : ((n : Int) == (m : Int)) = false := by rw [beq_eq_false_iff_ne]; omega
    have hne2 : ((n : Int) != (m : Int)) = true := by rw [bne_iff_ne]; omega
    rw [e0]
    clear e0 l1 l2 hnm
    go_enter Tryd.func23, Tryd.ntmps23
    go_wp2
    go_ret
    exact ⟨rfl, 0, rfl⟩
set_option maxHeartbeats 4000000 in
theorem refSame1_two (A1 A2 : Option Addr) (n c m d : Nat) (L M : List (List UInt8)) (w : World) (h1 : SliceIn w w.heap.size 1 A1 n c (strsV L)) (h2 : SliceIn w w.heap.size 1 A2 m d (strsV M)) (hn : n ≤ 1000000000) :
    Calls Tryd.prog 22 #[.slice A1 n c, .slice A2 m d] w fun e w' => e = .returned (.bool (L == M)) ∧ ∃ q, w' = w.drewN q := by
  have l1 : L.length = n := by have := h1.1; rw [strsV_length] at this; omega
  have l2 : M.length = m := by have := h2.1; rw [strsV_length] at this; omega
  by_cases hnm : n = m
  · subst hnm
    obtain ⟨t, ht⟩ : ∃ t, (L == M) = t := ⟨_, rfl⟩
    have HT0 := Lib.hid ht
    have L1 := Lib.hid l1
    have L2 := Lib.hid l2
    rw [ht]
    clear ht l1 l2
    go_enter Tryd.func22, Tryd.ntmps22
    go_wp2
    go_loopw [5] (fun i wr => ∃ k q : Nat, k ≤ n ∧ i = .int .i64 k ∧ L.take k = M.take k ∧ wr = w.drewN q) (fun i _ => n - (intOf i).toNat)
    case atStart => exact ⟨0, 0, by omega, rfl, rfl, rfl⟩
    case round =>
      obtain ⟨k, q, hk, rfl, ht, rfl⟩ := hrel
      have HT := Lib.hid ht
      clear ht
      by_cases hlt : k < n
      · obtain ⟨x, hx⟩ : ∃ x, L[k]? = some x := ⟨_, List.getElem?_eq_getElem (by rw [L1.out]; exact hlt)⟩
        obtain ⟨y, hy⟩ : ∃ y, M[k]? = some y := ⟨_, List.getElem?_eq_getElem (by rw [L2.out]; exact hlt)⟩
        obtain ⟨b1, o1, rfl, _, hc1⟩ := h1.2.2.2 (by omega)
        obtain ⟨b2, o2, rfl, _, hc2⟩ := h2.2.2.2 (by omega)
        have v1 := hc1 k (.string ⟨x.toArray⟩) (by simp [strsV, hx])
        have v2 := hc2 k (.string ⟨y.toArray⟩) (by simp [strsV, hy])
        clear hc1 hc2
        have ltI : (k : Int) < (n : Int) := by omega
        have EQ : ((⟨x.toArray⟩ : ByteArray).toList == (⟨y.toArray⟩ : ByteArray).toList) = decide (x = y) := by rw [toList_mk, toList_mk]; exact Bool.eq_iff_iff.2 (by simp)
        have NE : ((⟨x.toArray⟩ : ByteArray).toList != (⟨y.toArray⟩ : ByteArray).toList) = !decide (x = y) := by rw [bne, EQ]
        generalize (⟨x.toArray⟩ : ByteArray) = X at *
        generalize (⟨y.toArray⟩ : ByteArray) = Y at *
        by_cases hxy : x = y
        · rw [decide_eq_true hxy, Bool.not_true] at NE
          rw [decide_eq_true hxy] at EQ
          have HN := Lib.hid (snoc_take (by rw [← hxy]; exact hx : L[k]? = some y) hy HT.out)
          clear hx hy hxy
          go_wp2
          go_quiet (fail)
          go_wp2
          go_roundw
          case rel => exact ⟨k + 1, _, by omega, by go_num, HN.out, rfl⟩
          case measure => simp [intOf]; omega
        · rw [decide_eq_false hxy, Bool.not_false] at NE
          rw [decide_eq_false hxy] at EQ
          have e0 := HT0.out.symm.trans (beq_eq_false_iff_ne.2 (apart_at hx hy hxy))
          subst e0
          clear hx hy hxy
          go_wp2
          go_quiet (fail)
          go_wp2
          go_ret
          exact ⟨rfl, _, World.drewN_drewN _ _ _⟩
      · obtain rfl : n = k := by omega
        have e0 := HT0.out.symm.trans (beq_iff_eq.2 (all_take L1.out L2.out HT.out))
        subst e0
        clear hlt
        go_wp2
        go_ret
        exact ⟨rfl, q, rfl⟩
  · have e0 : (L == M) = false := by rw [beq_eq_false_iff_ne]; rintro rfl; omega
    have hne : ((n : Int) == (m : Int)) = false := by rw [beq_eq_false_iff_ne]; omega
    have hne2 : ((n : Int) != (m : Int)) = true := by rw [bne_iff_ne]; omega
    rw [e0]
    clear e0 l1 l2 hnm
    go_enter Tryd.func22, Tryd.ntmps22
    go_wp2
    go_ret
    exact ⟨rfl, 0, rfl⟩
end Go.Proofs.YtkodeeneljkgeaaDoor

/- Walks of layer 19: an entry's writer: numbers and texts put behind what is there. Condition: the writer is the call's own; lengths within 10^9. -/
namespace Go.Proofs.YtkodeeneljkgeaaDoor
open Go.RowKit IH
set_option maxRecDepth 100000
section
variable {P : Program} {w : World}
theorem step_appW {ops : Array Oper} {o : Oper} {a : Act} {K : Act → World → Prop} {Q : Exit → Act → World → Prop} {E : Prop} {t e : TypeId} {z : Value} {size bytes : Nat} (T : SliceTy P t e z size bytes) (hgd : o.guard = none) (s x : Operand) (ho : o.op = .call { callee := .builtin .append, args := #[s, x], argTypes := #[t, t] })
    (base : Nat) (v : Value) (n : Nat) (xs : List Value) (hs : a.eval s = v) (hown : w.ownsRow base e size v n xs)
    (B : Nat) (A : Option Addr) (m c : Nat) (news : List Value) (hx : a.eval x = .slice A m c) (hr : SliceIn w B size A m c news) (h1 : ∀ u ∈ news, u.oneCell' = true)
    (hb : (n + m) * bytes ≤ 140737488355328) (hm : n + m ≤ maxLen) (hbase : base ≤ w.heap.size)
    (h : ∀ v' w', w'.ownsRow base e size v' (n + m) (xs ++ news) → w.grownBy w' v.ownBlock → Moved w v v' → K (a.put o.dst v') w') :
    if Region.wanted o (yielded ops a.tmps) = true then Oper.wp P o a w K Q else E := by
  rw [if_pos (by simp [Region.wanted, hgd])]
  exact wp_appW T s x ho base v n xs hs hown B A m c news hx hr h1 hb hm hbase h
end
/-- A writer of the call's own that holds the octets l. -/
def Wr (B g : Nat) (w : World) (l : List UInt8) : Prop := ∃ v, RowAt w g 72 [v] ∧ w.ownsRow B 5 1 v l.length (bytesV l)
/-- Only rows of octets, and writers, may have changed. -/
def TyKeep (w w' : World) : Prop := ∀ (k : Nat) (cur : Array Value) (e : TypeId) (fz : Nat × Nat), w.heap[k]? = some (Obj.cells cur e fz) → e ≠ 5 → e ≠ 72 → w'.heap[k]? = w.heap[k]?
theorem TyKeep.refl (w : World) : TyKeep w w := fun _ _ _ _ _ _ _ => rfl
theorem TyKeep.trans {a b c : World} (h : TyKeep a b) (k : TyKeep b c) : TyKeep a c := fun i cur e fz hi h1 h2 => by
  have h3 := h i cur e fz hi h1 h2
  exact (k i cur e fz (h3.trans hi) h1 h2).trans h3
theorem TyKeep.below {w w' : World} (h : Below w.heap.size w w') : TyKeep w w' := fun i _ _ _ hi _ _ => h.block i (Array.getElem?_eq_some_iff.1 hi).1
theorem TyKeep.row {w w' : World} (h : TyKeep w w') {g : Nat} {e : TypeId} {cs : List Value} (hr : RowAt w g e cs) (h1 : e ≠ 5) (h2 : e ≠ 72) : RowAt w' g e cs := by
  obtain ⟨cur, lo, hi, hh, r⟩ := hr
  exact ⟨cur, lo, hi, (h g cur e (lo, hi) hh h1 h2).trans hh, r⟩
theorem TyKeep.grown {w w' : World} {B n : Nat} {v : Value} {xs : List Value} (ho : w.ownsRow B 5 1 v n xs) (hg : w.grownBy w' v.ownBlock) : TyKeep w w' := by
  intro i cur e fz hi h1 _
  refine hg.block i (Array.getElem?_eq_some_iff.1 hi).1 fun he => h1 ?_
  rcases ho.2 with ⟨rfl, _⟩ | ⟨g, cap, c2, rfl, _, hh, _⟩
  · cases he
  · simp only [Value.ownBlock, Option.some.injEq] at he
    subst he
    rw [hh] at hi
    injection hi with hi
    injection hi with _ h3 _
    exact h3.symm
theorem TyKeep.set {w : World} {g o : Nat} {cs : List Value} (hr : RowAt w g 72 cs) (v : Value) : TyKeep w (w.setCell ⟨g, o, none⟩ v) := by
  intro i cur e fz hi _ h2
  refine Below.heap_setCell w ⟨g, o, none⟩ v i fun he => h2 ?_
  obtain ⟨c2, lo, hi2, hh, _⟩ := hr
  have he' : i = g := he
  subst he'
  rw [hh] at hi
  injection hi with hi
  injection hi with _ h3 _
  exact h3.symm
theorem Wr.below {B g : Nat} {w w' : World} {l : List UInt8} (h : Wr B g w l) (hb : Below w.heap.size w w') : Wr B g w' l := by
  obtain ⟨v, h1, h2⟩ := h
  exact ⟨v, h1.below hb h1.lt, own_below h2 hb⟩
theorem row_neq_own {w : World} {B g n : Nat} {e e' : TypeId} {cs xs : List Value} {v : Value} (hr : RowAt w g e cs) (ho : w.ownsRow B e' 1 v n xs) (he : e ≠ e') : v.ownBlock ≠ some g := by
  intro hv
  obtain ⟨c2, lo, hi2, hh, _⟩ := hr
  rcases ho.2 with ⟨rfl, _⟩ | ⟨g', cap, cur, rfl, _, hh', _⟩
  · cases hv
  · simp only [Value.ownBlock, Option.some.injEq] at hv
    subst hv
    rw [hh] at hh'
    injection hh' with hh'
    injection hh' with _ h3 _
    exact he h3
/-- What an append onto its row, then stored, leaves. -/
theorem Wr.push {B g n : Nat} {w w' : World} {v v' : Value} {l x : List UInt8} (hB : B ≤ g) (hBw : B ≤ w.heap.size) (hr : RowAt w g 72 [v]) (ho : w.ownsRow B 5 1 v n (bytesV l)) (ho' : w'.ownsRow B 5 1 v' (l ++ x).length (bytesV (l ++ x))) (hg : w.grownBy w' v.ownBlock) :
    Wr B g (w'.setCell ⟨g, 0, none⟩ v') (l ++ x) ∧ Below B w (w'.setCell ⟨g, 0, none⟩ v') ∧ TyKeep w (w'.setCell ⟨g, 0, none⟩ v') := by
  have hr' : RowAt w' g 72 [v] := hr.keep (hg.block g hr.lt fun he => row_neq_own hr ho (by decide) he.symm)
  have hne := row_neq_own hr' ho' (by decide)
  refine ⟨⟨v', hr'.set_ (j := 0) (by simp) v', ?_⟩, ?_, (TyKeep.grown ho hg).trans (TyKeep.set hr' v')⟩
  · refine ⟨ho'.1, ?_⟩
    rcases ho'.2 with h2 | ⟨g', cap, cur, hv, hb, hh, r⟩
    · exact .inl h2
    · refine .inr ⟨g', cap, cur, hv, hb, (Below.heap_setCell w' ⟨g, 0, none⟩ v' g' fun he => ?_).trans hh, r⟩
      have he' : g' = g := he
      subst he'
      subst hv
      exact hne rfl
  · exact ((Below.refl B w).grown hg hBw fun k hk => (ho.lt k hk).1).setCell hB _
set_option maxHeartbeats 4000000 in
theorem wnumber_any (B g : Nat) (l : List UInt8) (n K : Int) (w : World) (hw : Wr B g w l) (hB : B ≤ g) (hK0 : 0 ≤ K) (hK : K ≤ 8) (hn0 : 0 ≤ n) (hn : n ≤ 9223372036854775807) (hl : l.length ≤ 1000000000) :
    Calls Tryd.prog 34 #[.pointer (some ⟨g, 0, none⟩), .int .i64 n, .int .i64 K] w fun e w' => e = .returned (.tuple #[]) ∧ Wr B g w' (l ++ numB K.toNat n.toNat) ∧ Below B w w' ∧ TyKeep w w' := by
  obtain ⟨n, rfl⟩ := Int.eq_ofNat_of_zero_le hn0
  obtain ⟨k, rfl⟩ := Int.eq_ofNat_of_zero_le hK0
  rw [Int.toNat_natCast, Int.toNat_natCast]
  have Hw := Lib.hid hw
  clear hw
  go_enter Tryd.func34, Tryd.ntmps34
  go_wp2
  go_loopw [6] (fun i wr => ∃ j : Nat, i = .int .i64 ((j : Int) - 1) ∧ j ≤ k ∧ Wr B g wr (l ++ numB (k - j) (n / 256 ^ j)) ∧ Below B w wr ∧ TyKeep w wr) (fun i _ => (intOf i + 1).toNat)
  case atStart => exact ⟨k, rfl, by omega, by rw [Nat.sub_self]; simpa [numB] using Hw.out, Below.refl _ _, TyKeep.refl _⟩
  case round =>
    obtain ⟨j, rfl, hj, hwr, hbel, hty⟩ := hrel
    rcases j with _ | j
    · rw [show ((0 : Nat) : Int) - 1 = -1 from rfl]
      have hn0 : (-1 : Int) < 0 := by omega
      clear hn hl hj hK0 hB
      go_wp2
      go_end0
      rw [Nat.sub_zero, Nat.pow_zero, Nat.div_one] at hwr
      exact ⟨rfl, hwr, hbel, hty⟩
    · rw [show ((j + 1 : Nat) : Int) - 1 = (j : Int) by omega]
      obtain ⟨v, hr, ho⟩ := hwr
      have c0 := hr.cell (j := 0) rfl
      have f0 := hr.frozen (j := 0) (by simp)
      have hst := numB_step (n := n) (k := k) (j := k - (j + 1)) (by omega)
      rw [show k - (j + 1) + 1 = k - j by omega, show k - 1 - (k - (j + 1)) = j by omega, show k - (k - (j + 1)) = j + 1 by omega] at hst
      have hR := Lib.hid hr
      have hO := Lib.hid ho
      have hB1 := Lib.hid hbel
      have hT1 := Lib.hid hty
      clear hr ho hbel hty
      have hlen : (numB (k - (j + 1)) (n / 256 ^ (j + 1))).length ≤ 8 := by rw [numB_length]; omega
      obtain ⟨O, hOe⟩ : ∃ O, l ++ numB (k - (j + 1)) (n / 256 ^ (j + 1)) = O := ⟨_, rfl⟩
      rw [hOe] at hO
      have hOl : O.length ≤ 1000000008 := by rw [← hOe, List.length_append]; omega
      have hw8 : IntKind.i64.wrap (8 * (j : Int)) = 8 * (j : Int) := IntWalk.i64_in _ ⟨by omega, by omega⟩
      have hm8 : min (8 * (j : Int)).toNat 64 = 8 * j := by omega
      obtain ⟨b, hb⟩ : ∃ b : UInt8, UInt8.ofNat (n / 256 ^ j % 256) = b := ⟨_, rfl⟩
      have hbw : IntKind.u8.wrap ((n : Int) / 2 ^ (8 * (j : Int)).toNat) = (b.toNat : Int) := by
        rw [show (8 * (j : Int)).toNat = 8 * j by omega, shift_byte, ← hb, byte_wrap]
        exact IntKind.wrap_u8 _
      have HN : Hid (l ++ numB (k - j) (n / 256 ^ j) = O ++ [b]) := Lib.hid (by rw [hst, ← hOe, hb, List.append_assoc])
      have hBw := hR.out.lt
      have hown2 := Lib.hid (hO.out.alloc (.cells #[.int .u8 b.toNat] 5))
      have hsrc := Lib.hid ((RowAt.new wr 5 [.int .u8 b.toNat]).slice (size := 1) (n := 1) (c := 1) rfl (Nat.le_refl _) (by simp [maxLen]))
      clear hst hlen hOe hb
      have jI : (0 : Int) ≤ (j : Int) := by omega
      go_upto_region 3 with fail
      go_region_law (refine step_appW u8_ty rfl _ _ rfl B v O.length (bytesV O) rfl hown2.out (wr.heap.size + 1) _ 1 1 [.int .u8 b.toNat] rfl (by have := hsrc.out; simp only [World.size_alloc] at this; exact this) (one1 _ rfl) (by omega) (by simp only [maxLen]; omega) (by simp; omega) ?_; intro v2 w2 ho2 hg2 _; obtain ⟨A2, q2, rfl, _⟩ := own_slice ho2; have HG2 : Hid (wr.grownBy w2 v.ownBlock) := Lib.hid (grownBy_of_alloc (o := .cells #[.int .u8 b.toNat] 5) ⟨hg2.os, hg2.tape, hg2.output, hg2.size, hg2.block⟩); have HO2 := Lib.hid ho2; have r2 : RowAt w2 g 72 [v] := hR.out.keep (HG2.out.block g hR.out.lt fun he => row_neq_own hR.out hO.out (by decide) he.symm); have c2 := r2.cell (j := 0) rfl; have f2 := r2.frozen (j := 0) (by simp); clear hg2 ho2 r2)
      all_goals
        go_wp2
        refine ⟨?_, by simp only [intOf]; omega⟩
        obtain ⟨z1, z2, z3⟩ := Wr.push (x := [b]) hB (Nat.le_of_lt (Nat.lt_of_le_of_lt hB hBw)) hR.out hO.out (by rw [List.length_append, bytesV_append]; exact HO2.out) HG2.out
        exact ⟨j, rfl, by omega, by rw [HN.out]; exact z1, hB1.out.trans z2, hT1.out.trans z3⟩
theorem wnumber_at (B g : Nat) (l : List UInt8) (n K : Int) (w : World) (hw : Wr B g w l) (hB : B ≤ g) (k m : Nat) (hk : K = k) (hm : n = m) (hK : k ≤ 8) (hn : m ≤ 9223372036854775807) (hl : l.length ≤ 1000000000) :
    Calls Tryd.prog 34 #[.pointer (some ⟨g, 0, none⟩), .int .i64 n, .int .i64 K] w fun e w' => e = .returned (.tuple #[]) ∧ Wr B g w' (l ++ numB k m) ∧ Below B w w' ∧ TyKeep w w' := by
  have h := wnumber_any B g l n K w hw hB (by omega) (by omega) (by omega) (by omega) hl
  rw [show K.toNat = k by omega, show n.toNat = m by omega] at h
  exact h
end Go.Proofs.YtkodeeneljkgeaaDoor

/- Walks of layer 19: texts put behind what a writer holds; the document's numbers and texts. Condition: lengths within 10^9. -/
namespace Go.Proofs.YtkodeeneljkgeaaDoor
open Go.RowKit IH
set_option maxRecDepth 100000
theorem own_one (w : World) (base : Nat) (e : TypeId) (v : Value) (hb : base ≤ w.heap.size) : (w.alloc (.cells #[v] e)).ownsRow base e 1 (.slice (some ⟨w.heap.size, 0, none⟩) 1 1) 1 [v] :=
  ⟨by simp, .inr ⟨w.heap.size, 1, #[v], rfl, hb, heap_alloc_new w _, Nat.le_refl _, by simp [maxLen], rfl, by simp⟩⟩
set_option maxHeartbeats 8000000 in
theorem wtexts_any (B g : Nat) (l : List UInt8) (A : Option Addr) (n c : Nat) (L : List (List UInt8)) (w : World) (hw : Wr B g w l) (hB : B ≤ g)
    (hin : ∀ W, Below B w W → TyKeep w W → SliceIn W W.heap.size 1 A n c (strsV L)) (hn : n ≤ 1000000) (hl : l.length + (L.flatMap textB).length ≤ 1000000000) :
    Calls Tryd.prog 35 #[.pointer (some ⟨g, 0, none⟩), .slice A n c] w fun e w' => e = .returned (.tuple #[]) ∧ Wr B g w' (l ++ L.flatMap textB) ∧ Below B w w' ∧ TyKeep w w' := by
  have hL : L.length = n := by have := (hin w (Below.refl _ _) (TyKeep.refl _)).1; rw [strsV_length] at this; omega
  have Hw := Lib.hid hw
  have Hin := Lib.hid hin
  have HL := Lib.hid hL
  have Hl := Lib.hid hl
  clear hw hin hL hl
  go_enter Tryd.func35, Tryd.ntmps35
  go_wp2
  go_loopw [8] (fun i wr => ∃ k : Nat, i = .int .i64 k ∧ k ≤ n ∧ Wr B g wr (l ++ (L.take k).flatMap textB) ∧ Below B w wr ∧ TyKeep w wr) (fun i _ => n - (intOf i).toNat)
  case atStart => exact ⟨0, rfl, by omega, by simpa using Hw.out, Below.refl _ _, TyKeep.refl _⟩
  case round =>
    obtain ⟨k, rfl, hk, hwr, hbel, hty⟩ := hrel
    have Hwr := Lib.hid hwr
    have Hbel := Lib.hid hbel
    have Hty := Lib.hid hty
    clear hwr hbel hty
    by_cases hlt : k < n
    · obtain ⟨s, hsk⟩ : ∃ s, L[k]? = some s := ⟨_, List.getElem?_eq_getElem (by rw [HL.out]; exact hlt)⟩
      obtain ⟨b, off, rfl, hb, hcells⟩ := str_in (Hin.out wr Hbel.out Hty.out) hsk
      have c0 := hcells k s hsk
      have hsn := flat_snoc textB hsk
      have htl := flat_take_le textB L (k + 1)
      have hl := Hl.out
      rw [hsn, List.length_append, textB_size] at htl
      obtain ⟨O, hO⟩ : ∃ O, l ++ (L.take k).flatMap textB = O := ⟨_, rfl⟩
      have hOl : O.length + s.length ≤ 999999998 := by rw [← hO, List.length_append]; omega
      have HN : Hid (l ++ (L.take (k + 1)).flatMap textB = O ++ numB 2 s.length ++ s) := Lib.hid (by rw [hsn, ← hO]; simp [textB])
      rw [hO] at Hwr
      have hsz : (⟨s.toArray⟩ : ByteArray).size = s.length := size_mk _
      have hsd : (⟨s.toArray⟩ : ByteArray).data.toList = s := by simp
      obtain ⟨S, hS⟩ : ∃ S : ByteArray, (⟨s.toArray⟩ : ByteArray) = S := ⟨_, rfl⟩
      rw [hS] at c0 hsz hsd
      have NU := (fun W (h : Wr B g W O) => wnumber_at B g O (S.size : Int) 2 W h hB 2 S.size rfl rfl (by omega) (by omega) (by omega))
      obtain ⟨Q, hQ⟩ : ∃ Q, O ++ numB 2 S.size = Q := ⟨_, rfl⟩
      have hQl : Q.length = O.length + 2 := by rw [← hQ, List.length_append, numB_length]
      simp only [hQ] at NU
      replace NU := Lib.hid NU
      have HQl := Lib.hid hQl
      have hQ3 : Q.length + S.size ≤ 1000000000 := by omega
      have HN : Hid (l ++ (L.take (k + 1)).flatMap textB = Q ++ S.data.toList) := Lib.hid (by rw [HN.out, ← hQ, hsd, hsz])
      have HSd := Lib.hid hsd
      have HSz := Lib.hid hsz
      have hS1 : S.size ≤ 999999998 := by omega
      have hO1 : O.length + S.size ≤ 999999998 := by omega
      clear hcells hsn htl hl hO hsk hS hsd hsz hOl hQ hQl
      go_wp2_with (first
        | (go_at_call 34; (with_reducible refine (NU.out _ Hwr.out).mono ?_); rintro e w2 ⟨rfl, hw2, hb2, ht2⟩; obtain ⟨v2, r2, o2⟩ := hw2; have R2 := Lib.hid r2; have O2 := Lib.hid o2; have B2 := Lib.hid hb2; have T2 := Lib.hid ht2; have c2 := r2.cell (j := 0) rfl; have f2 := r2.frozen (j := 0) (by simp); have hz2 := r2.lt; clear r2 o2 hb2 ht2)
        | (at_builtin; refine wpList_app_strW rfl _ _ rfl B v2 _ _ rfl O2.out S rfl (by omega) (by omega) ?_; intro v3 w3 ho3 hg3 _; obtain ⟨A3, q3, rfl, _⟩ := own_slice ho3; have HG3 := Lib.hid hg3; have HO3 := Lib.hid ho3; have r3 : RowAt w3 g 72 [v2] := R2.out.keep (hg3.block g R2.out.lt fun he => row_neq_own R2.out O2.out (by decide) he.symm); have c3 := r3.cell (j := 0) rfl; have f3 := r3.frozen (j := 0) (by simp); clear hg3 ho3 r3))
      refine ⟨?_, by simp only [intOf]; omega⟩
      obtain ⟨z1, z2, z3⟩ := Wr.push (x := S.data.toList) hB (by omega) R2.out O2.out (by rw [List.length_append, data_len]; exact HO3.out) HG3.out
      refine ⟨k + 1, by go_num, by omega, ?_, Hbel.out.trans (B2.out.trans z2), Hty.out.trans (T2.out.trans z3)⟩
      rw [HN.out]
      exact z1
    · obtain rfl : k = n := by omega
      have e : L.take k = L := List.take_of_length_le (by rw [HL.out]; exact Nat.le_refl _)
      rw [e] at Hwr
      clear e
      go_wp2
      go_end0
      exact ⟨rfl, Hwr.out, Hbel.out, Hty.out⟩
set_option maxHeartbeats 4000000 in
theorem rnum_any (n K : Int) (w : World) (hK0 : 0 ≤ K) (hK : K ≤ 8) (hn0 : 0 ≤ n) (hn : n ≤ 9223372036854775807) :
    Calls Tryd.prog 42 #[.int .i64 n, .int .i64 K] w fun e w' => ∃ v, e = .returned v ∧ w'.ownsRow w.heap.size 5 1 v K.toNat (bytesV (numB K.toNat n.toNat)) ∧ Below w.heap.size w w' := by
  obtain ⟨n, rfl⟩ := Int.eq_ofNat_of_zero_le hn0
  obtain ⟨k, rfl⟩ := Int.eq_ofNat_of_zero_le hK0
  rw [Int.toNat_natCast, Int.toNat_natCast]
  go_enter Tryd.func42, Tryd.ntmps42
  go_wp2
  go_loopw [0, 5, 6] (fun m v i wr => ∃ j : Nat, j ≤ k ∧ i = .int .i64 j ∧ m = .int .i64 (n / 256 ^ j : Nat) ∧ wr.ownsRow w.heap.size 5 1 v j (bytesV (numB j n)) ∧ Below w.heap.size w wr) (fun _ _ i _ => k - (intOf i).toNat)
  case atStart => exact ⟨0, by omega, rfl, by simp, World.ownsRow_nil _ _ _ _, Below.refl _ _⟩
  case round =>
    obtain ⟨j, hj, rfl, rfl, hown, hbel⟩ := hrel
    have Hbel := Lib.hid hbel
    have hB0 := hbel.size
    by_cases hlt : j < k
    · have hm : n / 256 ^ j ≤ 9223372036854775807 := Nat.le_trans (Nat.div_le_self _ _) (by omega)
      have hbw := byte_wrap (n / 256 ^ j)
      have HC := Lib.hid (numB_cons j n)
      have HD := Lib.hid (show n / 256 ^ (j + 1) = n / 256 ^ j / 256 by rw [Nat.pow_succ, Nat.div_div_eq_div_mul])
      generalize n / 256 ^ j = m at *
      obtain ⟨A, c, rfl, hs⟩ := own_slice hown
      have X := Lib.hid hs
      clear hown hs hbel
      obtain ⟨b, hb⟩ : ∃ b : UInt8, UInt8.ofNat (m % 256) = b := ⟨_, rfl⟩
      rw [hb] at hbw HC
      have hbw2 := hbw.symm
      clear hbw hb
      have jI : (j : Int) < (k : Int) := by omega
      go_wp2_with (at_builtin; refine wpList_appS u8_ty rfl _ _ rfl w.heap.size _ 1 [.int .u8 b.toNat] rfl (own_one wr w.heap.size _ _ hB0) wr.heap.size A j c _ rfl (X.out.alloc (Nat.le_refl _) _) (bytesV_one _) (by omega) (by simp only [maxLen]; omega) (by simp; omega) ?_; intro v3 w3 ho3 hg3)
      go_roundw
      case rel =>
        refine ⟨j + 1, by omega, by go_num, by rw [HD.out]; go_num, ?_, Hbel.out.trans ((Below.refl _ wr).grown (grownBy_of_alloc hg3) hB0 (fun g hg => ?_))⟩
        · rw [HC.out, Nat.add_comm j 1]
          exact ho3
        · have hg' : some wr.heap.size = some g := hg
          injection hg' with hg'
          omega
      case measure => simp [intOf]; omega
    · obtain rfl : j = k := by omega
      go_wp2
      go_ret
      exact ⟨_, rfl, hown, Hbel.out⟩
theorem rnum_at (n K : Int) (w : World) (k m : Nat) (hk : K = k) (hm : n = m) (hK : k ≤ 8) (hn : m ≤ 9223372036854775807) :
    Calls Tryd.prog 42 #[.int .i64 n, .int .i64 K] w fun e w' => ∃ v, e = .returned v ∧ w'.ownsRow w.heap.size 5 1 v k (bytesV (numB k m)) ∧ Below w.heap.size w w' := by
  have h := rnum_any n K w (by omega) (by omega) (by omega) (by omega)
  rw [show K.toNat = k by omega, show n.toNat = m by omega] at h
  exact h
set_option maxHeartbeats 4000000 in
theorem rtext_any (S : ByteArray) (w : World) (hS : S.size ≤ 1000000000) :
    Calls Tryd.prog 43 #[.string S] w fun e w' => ∃ v, e = .returned v ∧ w'.ownsRow w.heap.size 5 1 v (textB S.data.toList).length (bytesV (textB S.data.toList)) ∧ Below w.heap.size w w' := by
  have NU := Lib.hid (fun W => rnum_at (S.size : Int) 2 W 2 S.size rfl rfl (by omega) (by omega))
  have HT : Hid (textB S.data.toList = numB 2 S.size ++ S.data.toList) := Lib.hid (by unfold textB; rw [data_len])
  have hl2 : Hid ((numB 2 S.size).length = 2) := Lib.hid (numB_length _ _)
  go_enter Tryd.func43, Tryd.ntmps43
  go_wp2_with (first
    | (go_at_call 42; (with_reducible refine (NU.out _).mono ?_); rintro e w2 ⟨v, rfl, ho2, hb2⟩; have O2 := Lib.hid ho2; have B2 := Lib.hid hb2; have hz := hb2.size; clear ho2 hb2)
    | (at_builtin; refine wpList_app_str rfl _ _ rfl w.heap.size _ 2 (numB 2 S.size) rfl O2.out S rfl (by omega) hz ?_; intro v3 w3 ho3 hg3))
  go_ret
  refine ⟨_, rfl, ?_, B2.out.grown hg3 hz (fun g hg => (O2.out.lt g hg).1)⟩
  rw [HT.out, List.length_append, hl2.out, data_len]
  exact ho3
end Go.Proofs.YtkodeeneljkgeaaDoor
