/- Sb: several texts, one behind the other. -/
import Derived.Test.YtmcioedmjcbfbaaScr23
import Derived.Laws.OwnMore
/- Walks of layer 27: slices compared by package slices; what a crash keeps, as a text. Condition: lengths within 10^9. -/
namespace Go.Proofs.Ytmcioedmjcbfbaa
open Go.RowKit IH
set_option maxRecDepth 100000
set_option maxHeartbeats 4000000 in
theorem sEqual_bytes (A1 A2 : Option Addr) (n c m d : Nat) (L M : List UInt8) (w : World) (h1 : SliceIn w w.heap.size 1 A1 n c (bytesV L)) (h2 : SliceIn w w.heap.size 1 A2 m d (bytesV M)) (hn : n ≤ 1000000000) :
    Calls Try.prog 91 #[.slice A1 n c, .slice A2 m d] w fun e w' => e = .returned (.bool (L == M)) ∧ ∃ q, w' = w.drewN q := by
  have l1 : L.length = n := by have := h1.1; rw [bytesV_length] at this; omega
  have l2 : M.length = m := by have := h2.1; rw [bytesV_length] at this; omega
  by_cases hnm : n = m
  · subst hnm
    obtain ⟨t, ht⟩ : ∃ t, (L == M) = t := ⟨_, rfl⟩
    have HT0 := Lib.hid ht
    have L1 := Lib.hid l1
    have L2 := Lib.hid l2
    rw [ht]
    clear ht l1 l2
    go_enter Try.func91, Try.ntmps91
    go_wp2
    go_loopw [13] (fun i wr => ∃ k q : Nat, k ≤ n ∧ i = .int .i64 k ∧ L.take k = M.take k ∧ wr = w.drewN q) (fun i _ => n - (intOf i).toNat)
    case atStart => exact ⟨0, 0, by omega, rfl, rfl, rfl⟩
    case round =>
      obtain ⟨k, q, hk, rfl, ht, rfl⟩ := hrel
      have HT := Lib.hid ht
      clear ht
      by_cases hlt : k < n
      · obtain ⟨x, hx⟩ : ∃ x, L[k]? = some x := ⟨_, List.getElem?_eq_getElem (by rw [L1.out]; exact hlt)⟩
        obtain ⟨y, hy⟩ : ∃ y, M[k]? = some y := ⟨_, List.getElem?_eq_getElem (by rw [L2.out]; exact hlt)⟩
        obtain ⟨b1, o1, rfl, _, hc1⟩ := h1.2.2.2 (by omega)
        obtain ⟨b2, o2, rfl, _, hc2⟩ := h2.2.2.2 (by omega)
        have v1 := hc1 k (byteV x) (by simp [bytesV, hx])
        have v2 := hc2 k (byteV y) (by simp [bytesV, hy])
        try unfold byteV at v1 v2
        have ltI : (k : Int) < (n : Int) := by omega
        clear hc1 hc2
        by_cases hxy : x = y
        · subst hxy
          have HN := Lib.hid (take_snoc_eq hx hy HT.out)
          clear hx hy
          have e1 : ((x.toNat : Int) == (x.toNat : Int)) = true := beq_self_eq_true _
          have e2 : ((x.toNat : Int) != (x.toNat : Int)) = false := by simp
          go_wp2
          go_quiet (fail)
          go_wp2
          go_roundw
          case rel => exact ⟨k + 1, _, by omega, by go_num, HN.out, rfl⟩
          case measure => simp [intOf]; omega
        · have e0 := take_ne hx hy hxy
          rw [HT0.out] at e0
          subst e0
          clear hx hy
          have e1 : ((x.toNat : Int) == (y.toNat : Int)) = false := by
            rw [beq_eq_false_iff_ne]
            intro h
            exact hxy (UInt8.toNat_inj.1 (by omega))
          have e2 : ((x.toNat : Int) != (y.toNat : Int)) = true := by
            rw [bne_iff_ne]
            intro h
            exact hxy (UInt8.toNat_inj.1 (by omega))
          clear hxy
          go_wp2
          go_quiet (fail)
          go_wp2
          go_ret
          exact ⟨rfl, _, World.drewN_drewN _ _ _⟩
      · obtain rfl : n = k := by omega
        have e0 := take_all_eq L1.out L2.out HT.out
        rw [HT0.out] at e0
        subst e0
        clear hlt
        go_wp2
        go_ret
        exact ⟨rfl, q, rfl⟩
  · have e0 : (L == M) = false := ne_len (by omega)
    have hne : ((n : Int) == (m : Int)) = false := by rw [beq_eq_false_iff_ne]; omega
    have hne2 : ((n : Int) != (m : Int)) = true := by rw [bne_iff_ne]; omega
    rw [e0]
    clear e0 l1 l2 hnm
    go_enter Try.func91, Try.ntmps91
    go_wp2
    go_ret
    exact ⟨rfl, 0, rfl⟩
set_option maxHeartbeats 4000000 in
theorem sEqual_ints (A1 A2 : Option Addr) (n c m d : Nat) (L M : List Int) (w : World) (h1 : SliceIn w w.heap.size 1 A1 n c (intsV L)) (h2 : SliceIn w w.heap.size 1 A2 m d (intsV M)) (hn : n ≤ 1000000000) :
    Calls Try.prog 92 #[.slice A1 n c, .slice A2 m d] w fun e w' => e = .returned (.bool (L == M)) ∧ ∃ q, w' = w.drewN q := by
  have l1 : L.length = n := by have := h1.1; rw [intsV_length] at this; omega
  have l2 : M.length = m := by have := h2.1; rw [intsV_length] at this; omega
  by_cases hnm : n = m
  · subst hnm
    obtain ⟨t, ht⟩ : ∃ t, (L == M) = t := ⟨_, rfl⟩
    have HT0 := Lib.hid ht
    have L1 := Lib.hid l1
    have L2 := Lib.hid l2
    rw [ht]
    clear ht l1 l2
    go_enter Try.func92, Try.ntmps92
    go_wp2
    go_loopw [13] (fun i wr => ∃ k q : Nat, k ≤ n ∧ i = .int .i64 k ∧ L.take k = M.take k ∧ wr = w.drewN q) (fun i _ => n - (intOf i).toNat)
    case atStart => exact ⟨0, 0, by omega, rfl, rfl, rfl⟩
    case round =>
      obtain ⟨k, q, hk, rfl, ht, rfl⟩ := hrel
      have HT := Lib.hid ht
      clear ht
      by_cases hlt : k < n
      · obtain ⟨x, hx⟩ : ∃ x, L[k]? = some x := ⟨_, List.getElem?_eq_getElem (by rw [L1.out]; exact hlt)⟩
        obtain ⟨y, hy⟩ : ∃ y, M[k]? = some y := ⟨_, List.getElem?_eq_getElem (by rw [L2.out]; exact hlt)⟩
        obtain ⟨b1, o1, rfl, _, hc1⟩ := h1.2.2.2 (by omega)
        obtain ⟨b2, o2, rfl, _, hc2⟩ := h2.2.2.2 (by omega)
        have v1 := hc1 k (.int .i64 x) (by simp [intsV, hx])
        have v2 := hc2 k (.int .i64 y) (by simp [intsV, hy])
        try unfold byteV at v1 v2
        have ltI : (k : Int) < (n : Int) := by omega
        clear hc1 hc2
        by_cases hxy : x = y
        · subst hxy
          have HN := Lib.hid (take_snoc_eq hx hy HT.out)
          clear hx hy
          have e1 : (x == x) = true := beq_self_eq_true x
          have e2 : (x != x) = false := by simp
          go_wp2
          go_quiet (fail)
          go_wp2
          go_roundw
          case rel => exact ⟨k + 1, _, by omega, by go_num, HN.out, rfl⟩
          case measure => simp [intOf]; omega
        · have e0 := take_ne hx hy hxy
          rw [HT0.out] at e0
          subst e0
          clear hx hy
          have e1 : (x == y) = false := beq_eq_false_iff_ne.2 hxy
          have e2 : (x != y) = true := by simp [hxy]
          clear hxy
          go_wp2
          go_quiet (fail)
          go_wp2
          go_ret
          exact ⟨rfl, _, World.drewN_drewN _ _ _⟩
      · obtain rfl : n = k := by omega
        have e0 := take_all_eq L1.out L2.out HT.out
        rw [HT0.out] at e0
        subst e0
        clear hlt
        go_wp2
        go_ret
        exact ⟨rfl, q, rfl⟩
  · have e0 : (L == M) = false := ne_len (by omega)
    have hne : ((n : Int) == (m : Int)) = false := by rw [beq_eq_false_iff_ne]; omega
    have hne2 : ((n : Int) != (m : Int)) = true := by rw [bne_iff_ne]; omega
    rw [e0]
    clear e0 l1 l2 hnm
    go_enter Try.func92, Try.ntmps92
    go_wp2
    go_ret
    exact ⟨rfl, 0, rfl⟩
set_option maxHeartbeats 4000000 in
theorem sEqual_bools (A1 A2 : Option Addr) (n c m d : Nat) (L M : List Bool) (w : World) (h1 : SliceIn w w.heap.size 1 A1 n c (boolsV L)) (h2 : SliceIn w w.heap.size 1 A2 m d (boolsV M)) (hn : n ≤ 1000000000) :
    Calls Try.prog 93 #[.slice A1 n c, .slice A2 m d] w fun e w' => e = .returned (.bool (L == M)) ∧ ∃ q, w' = w.drewN q := by
  have l1 : L.length = n := by have := h1.1; rw [boolsV_length] at this; omega
  have l2 : M.length = m := by have := h2.1; rw [boolsV_length] at this; omega
  by_cases hnm : n = m
  · subst hnm
    obtain ⟨t, ht⟩ : ∃ t, (L == M) = t := ⟨_, rfl⟩
    have HT0 := Lib.hid ht
    have L1 := Lib.hid l1
    have L2 := Lib.hid l2
    rw [ht]
    clear ht l1 l2
    go_enter Try.func93, Try.ntmps93
    go_wp2
    go_loopw [13] (fun i wr => ∃ k q : Nat, k ≤ n ∧ i = .int .i64 k ∧ L.take k = M.take k ∧ wr = w.drewN q) (fun i _ => n - (intOf i).toNat)
    case atStart => exact ⟨0, 0, by omega, rfl, rfl, rfl⟩
    case round =>
      obtain ⟨k, q, hk, rfl, ht, rfl⟩ := hrel
      have HT := Lib.hid ht
      clear ht
      by_cases hlt : k < n
      · obtain ⟨x, hx⟩ : ∃ x, L[k]? = some x := ⟨_, List.getElem?_eq_getElem (by rw [L1.out]; exact hlt)⟩
        obtain ⟨y, hy⟩ : ∃ y, M[k]? = some y := ⟨_, List.getElem?_eq_getElem (by rw [L2.out]; exact hlt)⟩
        obtain ⟨b1, o1, rfl, _, hc1⟩ := h1.2.2.2 (by omega)
        obtain ⟨b2, o2, rfl, _, hc2⟩ := h2.2.2.2 (by omega)
        have v1 := hc1 k (.bool x) (by simp [boolsV, hx])
        have v2 := hc2 k (.bool y) (by simp [boolsV, hy])
        try unfold byteV at v1 v2
        have ltI : (k : Int) < (n : Int) := by omega
        clear hc1 hc2
        by_cases hxy : x = y
        · subst hxy
          have HN := Lib.hid (take_snoc_eq hx hy HT.out)
          clear hx hy
          cases x
          · go_wp2
            go_quiet (fail)
            go_wp2
            go_roundw
            case rel => exact ⟨k + 1, _, by omega, by go_num, HN.out, rfl⟩
            case measure => simp [intOf]; omega
          · go_wp2
            go_quiet (fail)
            go_wp2
            go_roundw
            case rel => exact ⟨k + 1, _, by omega, by go_num, HN.out, rfl⟩
            case measure => simp [intOf]; omega
        · have e0 := take_ne hx hy hxy
          rw [HT0.out] at e0
          subst e0
          clear hx hy
          cases x <;> cases y
          · exact absurd rfl hxy
          · go_wp2
            go_quiet (fail)
            go_wp2
            go_ret
            exact ⟨rfl, _, World.drewN_drewN _ _ _⟩
          · go_wp2
            go_quiet (fail)
            go_wp2
            go_ret
            exact ⟨rfl, _, World.drewN_drewN _ _ _⟩
          · exact absurd rfl hxy
      · obtain rfl : n = k := by omega
        have e0 := take_all_eq L1.out L2.out HT.out
        rw [HT0.out] at e0
        subst e0
        clear hlt
        go_wp2
        go_ret
        exact ⟨rfl, q, rfl⟩
  · have e0 : (L == M) = false := ne_len (by omega)
    have hne : ((n : Int) == (m : Int)) = false := by rw [beq_eq_false_iff_ne]; omega
    have hne2 : ((n : Int) != (m : Int)) = true := by rw [bne_iff_ne]; omega
    rw [e0]
    clear e0 l1 l2 hnm
    go_enter Try.func93, Try.ntmps93
    go_wp2
    go_ret
    exact ⟨rfl, 0, rfl⟩
end Go.Proofs.Ytmcioedmjcbfbaa

/- Walk of layer 27: what a crash keeps, as a text. Condition: at most 10^8 of them. -/
namespace Go.Proofs.Ytmcioedmjcbfbaa
open Go.RowKit IH
set_option maxRecDepth 100000
def k01 (b : Bool) : UInt8 := if b then 49 else 48
/-- So many of them, and zeros behind. -/
def kz (L : List Bool) (n j : Nat) : List UInt8 := (L.take j).map k01 ++ List.replicate (n - j) 0
theorem kz_set {L : List Bool} {n j : Nat} {x : Bool} (hL : L.length = n) (hx : L[j]? = some x) : (bytesV (kz L n j)).set j (byteV (k01 x)) = bytesV (kz L n (j + 1)) := by
  have hj : j < n := by have := (List.getElem?_eq_some_iff.1 hx).1; omega
  have e : n - j = (n - (j + 1)) + 1 := by omega
  have hl : ((L.take j).map k01).length = j := by rw [List.length_map, List.length_take]; omega
  have h1 : kz L n j = (L.take j).map k01 ++ 0 :: List.replicate (n - (j + 1)) 0 := by unfold kz; rw [e, List.replicate_succ]
  have h2 : kz L n (j + 1) = (L.take j).map k01 ++ k01 x :: List.replicate (n - (j + 1)) 0 := by
    unfold kz; rw [List.take_add_one, hx]; simp
  rw [h1, h2, bytesV_append, bytesV_append, List.set_append_right _ _ (by rw [bytesV_length, hl]; exact Nat.le_refl _), bytesV_length, hl]
  simp [bytesV]
theorem kz_zero (L : List Bool) (n : Nat) : bytesV (kz L n 0) = (madeCells (Value.int .u8 0).cells (n * 1)).toList := by
  rw [Nat.mul_one]
  have : (Value.int .u8 0).cells = #[.int .u8 0] := rfl
  rw [this, toList_madeCells_one]
  unfold kz bytesV
  simp [byteV]
theorem kz_full {L : List Bool} {n : Nat} (hL : L.length = n) (h0 : 0 < n) : kz L n n = keepL L := by
  unfold kz keepL
  rw [List.take_of_length_le (by omega), if_neg (by intro h; rw [h] at hL; simp at hL; omega)]
  simp [k01]
set_option maxHeartbeats 8000000 in
theorem kept_any (A : Option Addr) (n c : Nat) (L : List Bool) (w : World) (hin : SliceIn w w.heap.size 1 A n c (boolsV L)) (hs : n ≤ 100000000) :
    Calls Try.prog 95 #[.slice A n c] w fun e w' => e = .returned (.string ⟨(keepL L).toArray⟩) ∧ Below w.heap.size w w' := by
  have hL : L.length = n := by have := hin.1; rw [boolsV_length] at this; omega
  have Hin := Lib.hid hin
  clear hin
  by_cases h0 : n = 0
  · subst h0
    have hl : L = [] := List.eq_nil_of_length_eq_zero hL
    have HF : Hid ((⟨#[45]⟩ : ByteArray).data.toList = keepL L) := Lib.hid (by rw [hl]; rfl)
    clear hL hl
    go_enter Try.func95, Try.ntmps95
    go_wp2
    go_ret
    exact ⟨ret_str (bytes_eq HF.out), Below.refl _ _⟩
  · have hp : 0 < n := by omega
    have e0 : ((n : Int) == 0) = false := by rw [beq_eq_false_iff_ne]; omega
    have HL := Lib.hid hL
    clear hL h0
    obtain ⟨i0, hi, hz0, hz1, hz2⟩ := info_parts u8_ty.hi
    obtain ⟨g0, hg0⟩ : ∃ g0, w.heap.size = g0 := ⟨_, rfl⟩
    have Hg0 := Lib.hid hg0
    rw [hg0] at Hin ⊢
    go_enter Try.func95, Try.ntmps95
    go_wp2_with (at_make; refine wpList_make_full _ rfl _ _ 47 rfl g0 5 i0 (.int .u8 0) 1 Try.underlying47 hi hz0 hz1 .i64 .i64 _ _ n rfl rfl (by omega) (by omega) (by rw [hz2]; omega) (by simp only [maxLen]; omega) (by omega) ?_; intro w3 hown3 hgr3; rw [← kz_zero L n] at hown3; have R3 := Lib.hid hown3; have B3 := Lib.hid ((Below.refl g0 w).grown hgr3 (by omega) (fun q hq => by cases hq)); clear hown3 hgr3)
    clear hi hz0 hz1 hz2
    go_loopw [14] (fun i wr => ∃ j : Nat, j ≤ n ∧ i = .int .i64 j ∧ wr.ownsRow g0 5 1 (.slice (some ⟨g0, 0, none⟩) n n) n (bytesV (kz L n j)) ∧ Below g0 w wr) (fun i _ => n - (intOf i).toNat)
    case atStart => exact ⟨0, by omega, rfl, by first | exact R3.out | (have h := R3.out; rw [hg0] at h; rw [hg0]; exact h) | (have h := R3.out; rw [hg0] at h; exact h), B3.out⟩
    case round =>
      clear R3 B3
      obtain ⟨j, hj, rfl, hrow, hbel⟩ := hrel
      have Hrow := Lib.hid hrow
      clear hrow
      by_cases hlt : j < n
      · obtain ⟨x, hx⟩ : ∃ x, L[j]? = some x := ⟨_, List.getElem?_eq_getElem (by rw [HL.out]; exact hlt)⟩
        obtain ⟨b, off, rfl, hb, hc⟩ := Hin.out.2.2.2 (by omega)
        have cx := (hbel.cell (p := ⟨b, off + j, none⟩) hb).trans (hc j (.bool x) (by simp [boolsV, hx]))
        obtain ⟨y0, e1⟩ : ∃ v, wr.cell? ⟨g0, j, none⟩ = some v := by
          have hl := Hrow.out.1
          exact ⟨_, by rw [Hrow.out.cellAt j (by omega), List.getElem?_eq_getElem (by omega)]⟩
        have f0 := Hrow.out.frozenAt j
        have hbs := hbel.size
        have hst := Hrow.out.stored j (.int .u8 48)
        have hks := kz_set HL.out hx
        cases x
        · rw [show Value.int .u8 48 = byteV (k01 false) from rfl, hks] at hst
          have Hst := Lib.hid hst
          clear hst hx hc hks
          go_wp2
          go_roundw
          case rel => exact ⟨j + 1, by omega, by go_num, Hst.out.1, hbel.grown Hst.out.2 (by omega) (fun q hq => by injection hq with hq; omega)⟩
          case measure => simp [intOf]; omega
        · have hst2 := hst.1.stored j (.int .u8 49)
          rw [List.set_set, show Value.int .u8 49 = byteV (k01 true) from rfl, hks] at hst2
          obtain ⟨w4, hw4⟩ : ∃ w4, wr.setCell ⟨g0, j, none⟩ (.int .u8 48) = w4 := ⟨_, rfl⟩
          have f4 := hst.1.frozenAt j
          have e4 : w4.cell? ⟨g0, j, none⟩ = some (.int .u8 48) := by rw [← hw4, hst.1.cellAt j (by omega)]; simp [List.getElem?_set]; have := Hrow.out.1; omega
          rw [hw4] at hst2 f4
          have B4 := Lib.hid (hbel.grown hst.2 (by omega) (fun q hq => by injection hq with hq; omega))
          rw [hw4] at B4
          have Hst := Lib.hid hst2
          clear hst hst2 hx hc hks
          go_wp2
          go_roundw
          case rel => exact ⟨j + 1, by omega, by go_num, Hst.out.1, B4.out.grown Hst.out.2 (by have := B4.out.size; omega) (fun q hq => by injection hq with hq; omega)⟩
          case measure => simp [intOf]; omega
      · obtain rfl : n = j := by omega
        obtain ⟨w0, rfl⟩ : ∃ w0 : World, w0 = wr := ⟨_, rfl⟩
        rw [kz_full HL.out hp] at Hrow
        have hc1 := run_string_of (P := Try.prog) (SliceIn.of_own Hrow.out) 47 9 5 Try.underlying47 Try.underlying5 Try.underlying9
        have HB := Lib.hid hbel
        clear Hrow hbel
        go_wp2
        go_ret
        exact ⟨rfl, HB.out⟩
end Go.Proofs.Ytmcioedmjcbfbaa
