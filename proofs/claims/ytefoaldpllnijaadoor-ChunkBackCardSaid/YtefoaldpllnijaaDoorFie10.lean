/- Walks of layer 3: bytes.Index and bytes.Cut at lists, a header's line. Condition: at most 10^9 octets; the world's shape. -/
import Derived.Test.YtefoaldpllnijaaDoorFie9
import Derived.Test.YtefoaldpllnijaaDoorShape
import Derived.Lib.SlBytesConst
import Derived.IntWalk
namespace Go.Proofs.YtefoaldpllnijaaDoor
open Go.RowKit IH
set_option maxRecDepth 100000
def natsI (l : List UInt8) : List Int := l.map fun u => (u.toNat : Int)
theorem bytesOf_nats (l : List UInt8) : Lib.bytesOf (natsI l) = l := by
  unfold Lib.bytesOf natsI
  rw [List.map_map]
  conv => rhs; rw [← List.map_id l]
  apply List.map_congr_left
  intro u _
  simp
theorem nats_range (l : List UInt8) : ∀ x ∈ natsI l, 0 ≤ x ∧ x < 256 := by
  intro x hx
  obtain ⟨u, _, rfl⟩ := List.mem_map.1 hx
  have := u.toNat_lt
  omega
theorem nats_cells {w : World} {B b o n c : Nat} {l : List UInt8} (h : SliceIn w B 1 (some ⟨b, o, none⟩) n c (bytesV l)) : (natsI l).length = n ∧ ∀ i, i < n → w.cell? ((⟨b, o, none⟩ : Addr).add i) = some (.int .u8 ((natsI l).getD i 0)) := by
  have hl : l.length = n := by have := h.1; rw [bytesV_length, Nat.mul_one] at this; exact this
  refine ⟨by simp [natsI, hl], fun i hi => ?_⟩
  obtain ⟨b', o', e, _, hc⟩ := h.2.2.2 (by omega)
  simp only [Option.some.injEq, Addr.mk.injEq, and_true] at e
  obtain ⟨rfl, rfl⟩ := e
  have hil : i < l.length := by omega
  rw [add_plain, hc i (byteV l[i]) (by rw [bytesV_get, List.getElem?_eq_getElem hil]; rfl)]
  simp [byteV, natsI, List.getD_eq_getElem?_getD, hil]
theorem bIndex_at {B1 B2 : Nat} (b1 o1 n c1 b2 o2 k c2 : Nat) (l sub : List UInt8) (W : World) (hsh : W.ShapedOpen Tryd.prog) (h1 : SliceIn W B1 1 (some ⟨b1, o1, none⟩) n c1 (bytesV l)) (h2 : SliceIn W B2 1 (some ⟨b2, o2, none⟩) k c2 (bytesV sub)) (hn : n ≤ 1000000000) (hk : k ≤ 1000000000) :
    Calls Tryd.prog 115 #[.slice (some ⟨b1, o1, none⟩) n c1, .slice (some ⟨b2, o2, none⟩) k c2] W fun e w' => e = .returned (.int .i64 (Lib.index l sub)) ∧ ∃ q, w' = W.drewN q := by
  obtain ⟨x1, x2⟩ := nats_cells h1
  obtain ⟨y1, y2⟩ := nats_cells h2
  have := Tryd.bytes_Index_at_shaped ⟨b1, o1, none⟩ ⟨b2, o2, none⟩ n c1 k c2 (natsI l) (natsI sub) W x1 y1 (nats_range _) (nats_range _) x2 y2 h1.2.1 (by omega) (by omega) hsh
  rw [bytesOf_nats, bytesOf_nats] at this
  exact this
theorem bCut_at {B1 B2 : Nat} (b1 o1 n c1 b2 o2 k c2 : Nat) (l sub : List UInt8) (W : World) (hsh : W.ShapedOpen Tryd.prog) (h1 : SliceIn W B1 1 (some ⟨b1, o1, none⟩) n c1 (bytesV l)) (h2 : SliceIn W B2 1 (some ⟨b2, o2, none⟩) k c2 (bytesV sub)) (hn : n ≤ 1000000000) (hk : k ≤ 1000000000) :
    Calls Tryd.prog 108 #[.slice (some ⟨b1, o1, none⟩) n c1, .slice (some ⟨b2, o2, none⟩) k c2] W fun e w' => e = .returned (Lib.cutV (some ⟨b1, o1, none⟩) n c1 k (Lib.index l sub)) ∧ ∃ q, w' = W.drewN q := by
  have hl1 : l.length = n := by have := h1.1; rw [bytesV_length, Nat.mul_one] at this; exact this
  have hl2 : sub.length = k := by have := h2.1; rw [bytesV_length, Nat.mul_one] at this; exact this
  exact Tryd.bytes_Cut_of (some ⟨b1, o1, none⟩) (some ⟨b2, o2, none⟩) n c1 k c2 (Lib.index l sub) W h1.2.1 (Lib.index_ge _ _) (fun h => by have := Lib.index_room _ _ h; rw [hl1, hl2] at this; exact this) (by omega) (bIndex_at b1 o1 n c1 b2 o2 k c2 l sub W hsh h1 h2 hn hk)
theorem index_cr (l : List UInt8) : Lib.index l [13, 10] = match crAt l with | none => -1 | some n => (n : Int) := by
  induction l with
  | nil => rfl
  | cons b l ih =>
    unfold Lib.index crAt
    by_cases h : b = 13 ∧ l.head? = some 10
    · have hp : ([13, 10] : List UInt8).isPrefixOf (b :: l) = true := by
        obtain ⟨rfl, h2⟩ := h
        cases l with
        | nil => cases h2
        | cons d r => simp only [List.head?_cons, Option.some.injEq] at h2; subst h2; rfl
      rw [if_pos hp, if_pos h]
      rfl
    · have hp : ([13, 10] : List UInt8).isPrefixOf (b :: l) = false := by
        rw [Bool.eq_false_iff]
        intro hp
        rw [List.isPrefixOf_iff_prefix] at hp
        obtain ⟨t, ht⟩ := hp
        simp only [List.cons_append, List.nil_append, List.cons.injEq] at ht
        exact h ⟨ht.1.symm, by rw [← ht.2]; rfl⟩
      rw [if_neg (by rw [hp]; decide), if_neg h, ih]
      cases hc : crAt l with
      | none => rfl
      | some k =>
        have : ((k : Int) == -1) = false := by rw [beq_eq_false_iff_ne]; omega
        simp [this]
theorem index_one (l : List UInt8) (d : UInt8) : (d ∉ l → Lib.index l [d] = -1) ∧ (d ∈ l → Lib.index l [d] = ((l.takeWhile (· != d)).length : Nat)) := by
  rw [Lib.index_one]
  constructor
  · intro h
    exact indexByte_no d l fun x hx e => h (e ▸ hx)
  · intro h
    obtain ⟨a, b, rfl, ha⟩ := List.eq_append_cons_of_mem h
    have ha' : ∀ x ∈ a, x ≠ d := fun x hx e => ha (e ▸ hx)
    rw [indexByte_mid d a b ha', (takeWhile_to ha').1]
/-- The row of a constant's octets. -/
theorem RowAt.lit (w : World) (e : TypeId) (cs : List Value) : RowAt (w.alloc (.cells cs.toArray e (cs.length, cs.length + 1))) w.heap.size e cs :=
  ⟨cs.toArray, cs.length, cs.length + 1, heap_alloc_new w _, by simp, by simp⟩
/-- What line says. -/
def lineRes (N a : Nat) (rest : List UInt8) : List UInt8 × Int × Int := match lineF N a rest with
  | (some s, _) => (s, (a : Int) + s.length + 2, 0)
  | (none, e) => ([], 0, e)
set_option maxHeartbeats 4000000 in
theorem line_any (b0 off n c : Nat) (l : List UInt8) (a : Nat) (w : World) (hsh : w.ShapedOpen Tryd.prog) (hin : SliceIn w w.heap.size 1 (some ⟨b0, off, none⟩) n c (bytesV l)) (ha : a ≤ n) (hn : n ≤ 1000000000) :
    Calls Tryd.prog 107 #[.slice (some ⟨b0, off, none⟩) n c, .int .i64 a] w fun e w' => e = .returned (.tuple #[.string ⟨(lineRes n a (l.drop a)).1.toArray⟩, .int .i64 (lineRes n a (l.drop a)).2.1, .int .i64 (lineRes n a (l.drop a)).2.2]) ∧ Below w.heap.size w w' := by
  have hnc := hin.2.1
  have hll : l.length = n := by have := hin.1; rw [bytesV_length, Nat.mul_one] at this; exact this
  obtain ⟨o2, ho2⟩ : ∃ o2, (if c = a then (some ⟨b0, off, none⟩ : Option Addr) else some ⟨b0, off + a, none⟩) = some ⟨b0, o2, none⟩ := by
    by_cases h : c = a
    · exact ⟨off, by rw [if_pos h]⟩
    · exact ⟨off + a, by rw [if_neg h]⟩
  have hsub := hin.sub ha (Nat.le_refl n) (some ⟨b0, o2, none⟩) (fun hlt => by rw [← ho2, if_neg (by omega)]; simp [add_plain])
  simp only [Nat.mul_one] at hsub
  have hdr : (bytesV l).drop a = bytesV (l.drop a) := by simp [bytesV, List.map_drop]
  rw [hdr, List.take_of_length_le (by rw [bytesV_length, List.length_drop]; omega)] at hsub
  have kc : ∀ w : World, (convert 22 22 (.slice (some ⟨w.heap.size, 0, none⟩) 2 2)).run Tryd.prog (w.alloc (.cells #[.int .u8 13, .int .u8 10] 5)) = .ok (.slice (some ⟨w.heap.size, 0, none⟩) 2 2) (w.alloc (.cells #[.int .u8 13, .int .u8 10] 5 (2, 3))) := fun w => Lib.run_convert_bytes_const (P := Tryd.prog) w 22 5 #[.int .u8 13, .int .u8 10] 2 2 Tryd.underlying22 Tryd.underlying5
  have hc2 := (RowAt.lit w 5 [.int .u8 13, .int .u8 10]).slice (size := 1) (n := 2) (c := 2) rfl (Nat.le_refl _) (by simp [maxLen])
  have IX := bIndex_at b0 o2 (n - a) (c - a) w.heap.size 0 2 2 (l.drop a) [13, 10] (w.alloc (.cells #[.int .u8 13, .int .u8 10] 5 (2, 3))) (shaped_below hsh (below_al w _)) (hsub.alloc (Nat.le_refl _) _) hc2 (by omega) (by omega)
  rw [index_cr] at IX
  have i1 : (a : Int) ≤ (n : Int) := by omega
  have i2 : (0 : Int) ≤ (a : Int) := by omega
  have j1 : a ≤ c := by omega
  clear hc2 hsub hdr
  cases hcr : crAt (l.drop a) with
  | none =>
    have hres : lineRes n a (l.drop a) = ([], 0, if 65536 < n ∨ 65536 < a + 1 then 12 else 11) := by unfold lineRes lineF; rw [hcr]
    rw [hcr] at IX
    rw [hres]
    replace IX := Lib.hid IX
    clear hres hcr hin
    by_cases h1 : 65536 < n
    · rw [if_pos (.inl h1)]
      have k1 : (65536 : Int) < (n : Int) := by omega
      go_enter Tryd.func107, Tryd.ntmps107
      go_wp2_with (go_at_call 115; refine IX.out.mono ?_; rintro e w2 ⟨rfl, q, rfl⟩)
      go_ret3
      exact ⟨rfl, below_drewN (below_al w _) q⟩
    · by_cases h2 : 65536 < a + 1
      · rw [if_pos (.inr h2)]
        go_enter Tryd.func107, Tryd.ntmps107
        go_wp2_with (go_at_call 115; refine IX.out.mono ?_; rintro e w2 ⟨rfl, q, rfl⟩)
        go_ret3
        exact ⟨rfl, below_drewN (below_al w _) q⟩
      · rw [if_neg (by omega)]
        go_enter Tryd.func107, Tryd.ntmps107
        go_wp2_with (go_at_call 115; refine IX.out.mono ?_; rintro e w2 ⟨rfl, q, rfl⟩)
        go_ret3
        exact ⟨rfl, below_drewN (below_al w _) q⟩
  | some k =>
    have hk := crAt_le hcr
    rw [List.length_drop, hll] at hk
    have kb : a + k + 2 ≤ n := by omega
    obtain ⟨t, ht⟩ : ∃ t : Int, (a : Int) + (k : Int) = t := ⟨_, rfl⟩
    have t0 : 0 ≤ t := by omega
    have t1 : t + 2 ≤ (n : Int) := by omega
    clear hk
    have hca : ¬ c = a := by omega
    rw [if_neg hca] at ho2
    obtain rfl : off + a = o2 := by simpa using ho2
    clear ho2
    rw [hcr] at IX
    simp only at IX
    by_cases h1 : 65536 < a + k + 2
    · have hres : lineRes n a (l.drop a) = ([], 0, 12) := by unfold lineRes lineF; rw [hcr]; simp only; rw [if_pos h1]
      rw [hres]
      replace IX := Lib.hid IX
      have h1I : (65536 : Int) < t + 2 := by omega
      clear hres hcr hin h1 kb
      go_enter Tryd.func107, Tryd.ntmps107
      go_wp2_with (go_at_call 115; refine IX.out.mono ?_; rintro e w2 ⟨rfl, q, rfl⟩)
      go_ret3
      exact ⟨rfl, below_drewN (below_al w _) q⟩
    · have hlen : ((l.drop a).take k).length = k := by rw [List.length_take, List.length_drop]; omega
      have hres : lineRes n a (l.drop a) = ((l.drop a).take k, (a : Int) + k + 2, 0) := by unfold lineRes lineF; rw [hcr]; simp only; rw [if_neg h1]; simp only; rw [hlen]
      rw [hres]
      have hs2 := hin.sub (a := a) (b := a + k) (by omega) (by omega) (some ⟨b0, off + a, none⟩) (fun _ => by simp [add_plain])
      simp only [Nat.mul_one] at hs2
      have hdr : ((bytesV l).drop a).take (a + k - a) = bytesV ((l.drop a).take k) := by rw [show a + k - a = k by omega]; simp [bytesV, List.map_drop, List.map_take]
      rw [hdr, show a + k - a = k by omega] at hs2
      have hcs : ∀ q, (convert 22 9 (.slice (some ⟨b0, off + a, none⟩) k (c - a))).run Tryd.prog ((w.alloc (.cells #[.int .u8 13, .int .u8 10] 5 (2, 3))).drewN q) = .ok (.string ⟨((l.drop a).take k).toArray⟩) ((w.alloc (.cells #[.int .u8 13, .int .u8 10] 5 (2, 3))).drewN q) := fun q =>
        run_string_of (P := Tryd.prog) ((hs2.alloc (Nat.le_refl _) (.cells #[.int .u8 13, .int .u8 10] 5 (2, 3))).drewN q) 22 9 5 Tryd.underlying22 Tryd.underlying5 Tryd.underlying9
      have i3 : t ≤ (n : Int) := by omega
      have i4 : (a : Int) ≤ t := by omega
      have it : t.toNat = a + k := by omega
      have j2 : a + k ≤ c := by omega
      have j3 : a ≤ a + k := by omega
      replace IX := Lib.hid IX
      generalize (⟨((l.drop a).take k).toArray⟩ : ByteArray) = X at *
      have h1I : t + 2 ≤ (65536 : Int) := by omega
      rw [ht]
      clear hres hcr hin hs2 hdr hlen h1 kb
      go_enter Tryd.func107, Tryd.ntmps107
      go_wp2_with (go_at_call 115; refine IX.out.mono ?_; rintro e w2 ⟨rfl, q, rfl⟩)
      go_ret3
      exact ⟨rfl, below_drewN (below_al w _) q⟩
end Go.Proofs.YtefoaldpllnijaaDoor
