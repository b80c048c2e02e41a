/- Sc: several texts, one behind the other. -/
import Derived.Test.YtmcioedmjcbfbaaScr26
import Derived.Test.YtmcioedmjcbfbaaScr27
import Derived.Test.YtmcioedmjcbfbaaSb
import Derived.Test.YtmcioedmjcbfbaaScr2
import Derived.Test.YtmcioedmjcbfbaaScr19
import Derived.Test.YtmcioedmjcbfbaaKt
/- Walks of layer 27: a part of a deed as texts; a deed's line. Condition: slices as they may be, at most 10^6 calls and bits, 10^7 octets. -/
namespace Go.Proofs.Ytmcioedmjcbfbaa
open Go.RowKit IH
set_option maxRecDepth 100000
/-- The texts that an ask gives. -/
def partL (d : Deed) (a : UInt8) : List (List UInt8) :=
  if a = 99 then [numL d.conn] else if a = 110 then [numL d.n] else if a = 111 then [quote27 d.b] else if a = 107 then [keepL d.keep] else if a = 116 then [numL d.torn] else if a = 112 then [numL d.part] else d.calls.map numL
theorem parts_line {d : Deed} (h0 : 0 ≤ d.kind) (h1 : d.kind ≤ 10) : nameK d.kind ++ ((asksK d.kind).flatMap (partL d)).flatMap (fun x => 32 :: x) = printD d := by
  unfold printD
  congr 1
  have h : d.kind = 0 ∨ d.kind = 1 ∨ d.kind = 2 ∨ d.kind = 3 ∨ d.kind = 4 ∨ d.kind = 5 ∨ d.kind = 6 ∨ d.kind = 7 ∨ d.kind = 8 ∨ d.kind = 9 ∨ d.kind = 10 := by omega
  rcases h with h | h | h | h | h | h | h | h | h | h | h <;> simp [asksK, tailD, partL, h, List.flatMap_map]
theorem part_len {d : Deed} (hd : DeedN d) (a : UInt8) : (partL d a).length ≤ 1000001 ∧ ∀ x ∈ partL d a, x.length ≤ 40000002 := by
  have hn : ∀ n, inI n → (numL n).length ≤ 40000002 := fun n h => by have := num_length h; omega
  unfold partL
  split
  · simp [hn _ hd.ic]
  split
  · simp [hn _ hd.iN]
  split
  · have := quote_length d.b
    have := hd.lb
    simp; omega
  split
  · have := keep_length d.keep
    have := hd.lk
    simp; omega
  split
  · simp [hn _ hd.it]
  split
  · simp [hn _ hd.ip]
  · refine ⟨by rw [List.length_map]; have := hd.lc; omega, fun x hx => ?_⟩
    obtain ⟨n, hnm, rfl⟩ := List.mem_map.1 hx
    exact hn _ (hd.ia n hnm)
def strV (l : List UInt8) : Value := .string ⟨l.toArray⟩
theorem strsV_append2 (a b : List (List UInt8)) : strsV (a ++ b) = strsV a ++ strsV b := by simp [strsV]
theorem strsV_len (a : List (List UInt8)) : (strsV a).length = a.length := by simp [strsV]
theorem strsV_one2 (a : List (List UInt8)) : ∀ u ∈ strsV a, u.oneCell' = true := by
  intro u hu
  obtain ⟨b, _, rfl⟩ := List.mem_map.1 hu
  rfl
theorem below_al3 {B : Nat} {w w' : World} (h : Below B w w') (hB : B ≤ w'.heap.size) (o : Obj) : Below B w (w'.alloc o) := h.alloc hB o
set_option maxHeartbeats 4000000 in
theorem part_c (d : Deed) (AB AC AK : Option Addr) (nB cB nC cC nK cK : Nat) (w : World)
    (hB : SliceIn w w.heap.size 1 AB nB cB (bytesV d.b)) (hC : SliceIn w w.heap.size 1 AC nC cC (intsV d.calls)) (hK : SliceIn w w.heap.size 1 AK nK cK (boolsV d.keep)) (hd : DeedN d) :
    Calls Try.prog 74 #[.agg (cells8 d (.slice AB nB cB) (.slice AC nC cC) (.slice AK nK cK)).toArray, .int .u8 ((99 : UInt8).toNat : Int)] w fun e w' => ∃ v, e = .returned v ∧ w'.ownsRow w.heap.size 9 1 v (partL d 99).length (strsV (partL d 99)) ∧ Below w.heap.size w w' := by
  rw [c8]
  obtain ⟨g0, hg0⟩ : ∃ g0, w.heap.size = g0 := ⟨_, rfl⟩
  obtain ⟨wa, hwa⟩ : ∃ wa, w.alloc (.cells (cells8 d (.slice AB nB cB) (.slice AC nC cC) (.slice AK nK cK)).toArray 98) = wa := ⟨_, rfl⟩
  rw [hg0]
  rw [hg0] at hB hC hK
  have hz1 : wa.heap.size = g0 + 1 := by rw [← hwa]; simp [hg0]
  have B1 : Hid (Below g0 w wa) := Lib.hid (by rw [← hwa]; exact (Below.refl _ _).alloc (by omega) _)
  have R1 : RowAt wa g0 98 (cells8 d (.slice AB nB cB) (.slice AC nC cC) (.slice AK nK cK)) := by rw [← hwa, ← hg0]; exact RowAt.new w _ _
  have HB := Lib.hid ((hB.below B1.out).more (show g0 ≤ wa.heap.size by omega))
  have HC := Lib.hid ((hC.below B1.out).more (show g0 ≤ wa.heap.size by omega))
  have HK := Lib.hid ((hK.below B1.out).more (show g0 ≤ wa.heap.size by omega))
  have lB : d.b.length = nB := by have := hB.1; rw [bytesV_length] at this; omega
  have lC : d.calls.length = nC := by have := hC.1; rw [intsV_length] at this; omega
  have lK : d.keep.length = nK := by have := hK.1; rw [boolsV_length] at this; omega
  have HD := Lib.hid hd
  have hnB : nB ≤ 10000000 := by have := hd.lb; omega
  have hnC : nC ≤ 1000000 := by have := hd.lc; omega
  have hnK : nK ≤ 1000000 := by have := hd.lk; omega
  rw [c8] at hwa
  have c0 := R1.cell (j := 0) rfl
  have c1 := R1.cell (j := 1) rfl
  have c2 := R1.cell (j := 2) rfl
  have c3 := R1.cell (j := 3) rfl
  have c4 := R1.cell (j := 4) rfl
  have c5 := R1.cell (j := 5) rfl
  have c6 := R1.cell (j := 6) rfl
  have c7 := R1.cell (j := 7) rfl
  have hg1 : g0 < wa.heap.size := by omega
  have e0 : ((99 : UInt8).toNat : Int) = 99 := rfl
  rw [e0]
  have LC := Lib.hid lC
  clear R1 hB hC hK lB lC lK hd e0
  obtain ⟨X, hX⟩ : ∃ S : ByteArray, (⟨(numL d.conn).toArray⟩ : ByteArray) = S := ⟨_, rfl⟩
  have HP : Hid (partL d 99 = [numL d.conn] ∧ strsV [numL d.conn] = [.string X]) := Lib.hid ⟨rfl, by rw [← hX]; rfl⟩
  have DX := Lib.hid (fun w => snumber_any d.conn HD.out.ic.1 HD.out.ic.2 w)
  rw [hX] at DX
  generalize d.conn = xx at *
  clear hX
  go_enter Try.func74, Try.ntmps74
  go_wp2_with (go_at_call 94; refine (DX.out _).mono ?_; rintro e w2 ⟨rfl, hq⟩; obtain ⟨q, hq⟩ := hq; obtain ⟨W2, rfl⟩ : ∃ W : World, W = w2 := ⟨_, rfl⟩; have B2 : Hid (Below g0 w W2) := Lib.hid (by rw [hq]; exact below_drewN B1.out q); clear hq)
  go_ret
  rw [HP.out.1, HP.out.2]
  exact ⟨_, rfl, World.ownsRow_lit (base := g0) (e := 9) (size := 1) W2 #[.string X] 1 (by have := B2.out.size; omega) (by simp [maxLen]) rfl, below_al3 B2.out (by have := B2.out.size; omega) _⟩
set_option maxHeartbeats 4000000 in
theorem part_n (d : Deed) (AB AC AK : Option Addr) (nB cB nC cC nK cK : Nat) (w : World)
    (hB : SliceIn w w.heap.size 1 AB nB cB (bytesV d.b)) (hC : SliceIn w w.heap.size 1 AC nC cC (intsV d.calls)) (hK : SliceIn w w.heap.size 1 AK nK cK (boolsV d.keep)) (hd : DeedN d) :
    Calls Try.prog 74 #[.agg (cells8 d (.slice AB nB cB) (.slice AC nC cC) (.slice AK nK cK)).toArray, .int .u8 ((110 : UInt8).toNat : Int)] w fun e w' => ∃ v, e = .returned v ∧ w'.ownsRow w.heap.size 9 1 v (partL d 110).length (strsV (partL d 110)) ∧ Below w.heap.size w w' := by
  rw [c8]
  obtain ⟨g0, hg0⟩ : ∃ g0, w.heap.size = g0 := ⟨_, rfl⟩
  obtain ⟨wa, hwa⟩ : ∃ wa, w.alloc (.cells (cells8 d (.slice AB nB cB) (.slice AC nC cC) (.slice AK nK cK)).toArray 98) = wa := ⟨_, rfl⟩
  rw [hg0]
  rw [hg0] at hB hC hK
  have hz1 : wa.heap.size = g0 + 1 := by rw [← hwa]; simp [hg0]
  have B1 : Hid (Below g0 w wa) := Lib.hid (by rw [← hwa]; exact (Below.refl _ _).alloc (by omega) _)
  have R1 : RowAt wa g0 98 (cells8 d (.slice AB nB cB) (.slice AC nC cC) (.slice AK nK cK)) := by rw [← hwa, ← hg0]; exact RowAt.new w _ _
  have HB := Lib.hid ((hB.below B1.out).more (show g0 ≤ wa.heap.size by omega))
  have HC := Lib.hid ((hC.below B1.out).more (show g0 ≤ wa.heap.size by omega))
  have HK := Lib.hid ((hK.below B1.out).more (show g0 ≤ wa.heap.size by omega))
  have lB : d.b.length = nB := by have := hB.1; rw [bytesV_length] at this; omega
  have lC : d.calls.length = nC := by have := hC.1; rw [intsV_length] at this; omega
  have lK : d.keep.length = nK := by have := hK.1; rw [boolsV_length] at this; omega
  have HD := Lib.hid hd
  have hnB : nB ≤ 10000000 := by have := hd.lb; omega
  have hnC : nC ≤ 1000000 := by have := hd.lc; omega
  have hnK : nK ≤ 1000000 := by have := hd.lk; omega
  rw [c8] at hwa
  have c0 := R1.cell (j := 0) rfl
  have c1 := R1.cell (j := 1) rfl
  have c2 := R1.cell (j := 2) rfl
  have c3 := R1.cell (j := 3) rfl
  have c4 := R1.cell (j := 4) rfl
  have c5 := R1.cell (j := 5) rfl
  have c6 := R1.cell (j := 6) rfl
  have c7 := R1.cell (j := 7) rfl
  have hg1 : g0 < wa.heap.size := by omega
  have e0 : ((110 : UInt8).toNat : Int) = 110 := rfl
  rw [e0]
  have LC := Lib.hid lC
  clear R1 hB hC hK lB lC lK hd e0
  obtain ⟨X, hX⟩ : ∃ S : ByteArray, (⟨(numL d.n).toArray⟩ : ByteArray) = S := ⟨_, rfl⟩
  have HP : Hid (partL d 110 = [numL d.n] ∧ strsV [numL d.n] = [.string X]) := Lib.hid ⟨rfl, by rw [← hX]; rfl⟩
  have DX := Lib.hid (fun w => snumber_any d.n HD.out.iN.1 HD.out.iN.2 w)
  rw [hX] at DX
  generalize d.n = xx at *
  clear hX
  go_enter Try.func74, Try.ntmps74
  go_wp2_with (go_at_call 94; refine (DX.out _).mono ?_; rintro e w2 ⟨rfl, hq⟩; obtain ⟨q, hq⟩ := hq; obtain ⟨W2, rfl⟩ : ∃ W : World, W = w2 := ⟨_, rfl⟩; have B2 : Hid (Below g0 w W2) := Lib.hid (by rw [hq]; exact below_drewN B1.out q); clear hq)
  go_ret
  rw [HP.out.1, HP.out.2]
  exact ⟨_, rfl, World.ownsRow_lit (base := g0) (e := 9) (size := 1) W2 #[.string X] 1 (by have := B2.out.size; omega) (by simp [maxLen]) rfl, below_al3 B2.out (by have := B2.out.size; omega) _⟩
set_option maxHeartbeats 4000000 in
theorem part_t (d : Deed) (AB AC AK : Option Addr) (nB cB nC cC nK cK : Nat) (w : World)
    (hB : SliceIn w w.heap.size 1 AB nB cB (bytesV d.b)) (hC : SliceIn w w.heap.size 1 AC nC cC (intsV d.calls)) (hK : SliceIn w w.heap.size 1 AK nK cK (boolsV d.keep)) (hd : DeedN d) :
    Calls Try.prog 74 #[.agg (cells8 d (.slice AB nB cB) (.slice AC nC cC) (.slice AK nK cK)).toArray, .int .u8 ((116 : UInt8).toNat : Int)] w fun e w' => ∃ v, e = .returned v ∧ w'.ownsRow w.heap.size 9 1 v (partL d 116).length (strsV (partL d 116)) ∧ Below w.heap.size w w' := by
  rw [c8]
  obtain ⟨g0, hg0⟩ : ∃ g0, w.heap.size = g0 := ⟨_, rfl⟩
  obtain ⟨wa, hwa⟩ : ∃ wa, w.alloc (.cells (cells8 d (.slice AB nB cB) (.slice AC nC cC) (.slice AK nK cK)).toArray 98) = wa := ⟨_, rfl⟩
  rw [hg0]
  rw [hg0] at hB hC hK
  have hz1 : wa.heap.size = g0 + 1 := by rw [← hwa]; simp [hg0]
  have B1 : Hid (Below g0 w wa) := Lib.hid (by rw [← hwa]; exact (Below.refl _ _).alloc (by omega) _)
  have R1 : RowAt wa g0 98 (cells8 d (.slice AB nB cB) (.slice AC nC cC) (.slice AK nK cK)) := by rw [← hwa, ← hg0]; exact RowAt.new w _ _
  have HB := Lib.hid ((hB.below B1.out).more (show g0 ≤ wa.heap.size by omega))
  have HC := Lib.hid ((hC.below B1.out).more (show g0 ≤ wa.heap.size by omega))
  have HK := Lib.hid ((hK.below B1.out).more (show g0 ≤ wa.heap.size by omega))
  have lB : d.b.length = nB := by have := hB.1; rw [bytesV_length] at this; omega
  have lC : d.calls.length = nC := by have := hC.1; rw [intsV_length] at this; omega
  have lK : d.keep.length = nK := by have := hK.1; rw [boolsV_length] at this; omega
  have HD := Lib.hid hd
  have hnB : nB ≤ 10000000 := by have := hd.lb; omega
  have hnC : nC ≤ 1000000 := by have := hd.lc; omega
  have hnK : nK ≤ 1000000 := by have := hd.lk; omega
  rw [c8] at hwa
  have c0 := R1.cell (j := 0) rfl
  have c1 := R1.cell (j := 1) rfl
  have c2 := R1.cell (j := 2) rfl
  have c3 := R1.cell (j := 3) rfl
  have c4 := R1.cell (j := 4) rfl
  have c5 := R1.cell (j := 5) rfl
  have c6 := R1.cell (j := 6) rfl
  have c7 := R1.cell (j := 7) rfl
  have hg1 : g0 < wa.heap.size := by omega
  have e0 : ((116 : UInt8).toNat : Int) = 116 := rfl
  rw [e0]
  have LC := Lib.hid lC
  clear R1 hB hC hK lB lC lK hd e0
  obtain ⟨X, hX⟩ : ∃ S : ByteArray, (⟨(numL d.torn).toArray⟩ : ByteArray) = S := ⟨_, rfl⟩
  have HP : Hid (partL d 116 = [numL d.torn] ∧ strsV [numL d.torn] = [.string X]) := Lib.hid ⟨rfl, by rw [← hX]; rfl⟩
  have DX := Lib.hid (fun w => snumber_any d.torn HD.out.it.1 HD.out.it.2 w)
  rw [hX] at DX
  generalize d.torn = xx at *
  clear hX
  go_enter Try.func74, Try.ntmps74
  go_wp2_with (go_at_call 94; refine (DX.out _).mono ?_; rintro e w2 ⟨rfl, hq⟩; obtain ⟨q, hq⟩ := hq; obtain ⟨W2, rfl⟩ : ∃ W : World, W = w2 := ⟨_, rfl⟩; have B2 : Hid (Below g0 w W2) := Lib.hid (by rw [hq]; exact below_drewN B1.out q); clear hq)
  go_ret
  rw [HP.out.1, HP.out.2]
  exact ⟨_, rfl, World.ownsRow_lit (base := g0) (e := 9) (size := 1) W2 #[.string X] 1 (by have := B2.out.size; omega) (by simp [maxLen]) rfl, below_al3 B2.out (by have := B2.out.size; omega) _⟩
set_option maxHeartbeats 4000000 in
theorem part_p (d : Deed) (AB AC AK : Option Addr) (nB cB nC cC nK cK : Nat) (w : World)
    (hB : SliceIn w w.heap.size 1 AB nB cB (bytesV d.b)) (hC : SliceIn w w.heap.size 1 AC nC cC (intsV d.calls)) (hK : SliceIn w w.heap.size 1 AK nK cK (boolsV d.keep)) (hd : DeedN d) :
    Calls Try.prog 74 #[.agg (cells8 d (.slice AB nB cB) (.slice AC nC cC) (.slice AK nK cK)).toArray, .int .u8 ((112 : UInt8).toNat : Int)] w fun e w' => ∃ v, e = .returned v ∧ w'.ownsRow w.heap.size 9 1 v (partL d 112).length (strsV (partL d 112)) ∧ Below w.heap.size w w' := by
  rw [c8]
  obtain ⟨g0, hg0⟩ : ∃ g0, w.heap.size = g0 := ⟨_, rfl⟩
  obtain ⟨wa, hwa⟩ : ∃ wa, w.alloc (.cells (cells8 d (.slice AB nB cB) (.slice AC nC cC) (.slice AK nK cK)).toArray 98) = wa := ⟨_, rfl⟩
  rw [hg0]
  rw [hg0] at hB hC hK
  have hz1 : wa.heap.size = g0 + 1 := by rw [← hwa]; simp [hg0]
  have B1 : Hid (Below g0 w wa) := Lib.hid (by rw [← hwa]; exact (Below.refl _ _).alloc (by omega) _)
  have R1 : RowAt wa g0 98 (cells8 d (.slice AB nB cB) (.slice AC nC cC) (.slice AK nK cK)) := by rw [← hwa, ← hg0]; exact RowAt.new w _ _
  have HB := Lib.hid ((hB.below B1.out).more (show g0 ≤ wa.heap.size by omega))
  have HC := Lib.hid ((hC.below B1.out).more (show g0 ≤ wa.heap.size by omega))
  have HK := Lib.hid ((hK.below B1.out).more (show g0 ≤ wa.heap.size by omega))
  have lB : d.b.length = nB := by have := hB.1; rw [bytesV_length] at this; omega
  have lC : d.calls.length = nC := by have := hC.1; rw [intsV_length] at this; omega
  have lK : d.keep.length = nK := by have := hK.1; rw [boolsV_length] at this; omega
  have HD := Lib.hid hd
  have hnB : nB ≤ 10000000 := by have := hd.lb; omega
  have hnC : nC ≤ 1000000 := by have := hd.lc; omega
  have hnK : nK ≤ 1000000 := by have := hd.lk; omega
  rw [c8] at hwa
  have c0 := R1.cell (j := 0) rfl
  have c1 := R1.cell (j := 1) rfl
  have c2 := R1.cell (j := 2) rfl
  have c3 := R1.cell (j := 3) rfl
  have c4 := R1.cell (j := 4) rfl
  have c5 := R1.cell (j := 5) rfl
  have c6 := R1.cell (j := 6) rfl
  have c7 := R1.cell (j := 7) rfl
  have hg1 : g0 < wa.heap.size := by omega
  have e0 : ((112 : UInt8).toNat : Int) = 112 := rfl
  rw [e0]
  have LC := Lib.hid lC
  clear R1 hB hC hK lB lC lK hd e0
  obtain ⟨X, hX⟩ : ∃ S : ByteArray, (⟨(numL d.part).toArray⟩ : ByteArray) = S := ⟨_, rfl⟩
  have HP : Hid (partL d 112 = [numL d.part] ∧ strsV [numL d.part] = [.string X]) := Lib.hid ⟨rfl, by rw [← hX]; rfl⟩
  have DX := Lib.hid (fun w => snumber_any d.part HD.out.ip.1 HD.out.ip.2 w)
  rw [hX] at DX
  generalize d.part = xx at *
  clear hX
  go_enter Try.func74, Try.ntmps74
  go_wp2_with (go_at_call 94; refine (DX.out _).mono ?_; rintro e w2 ⟨rfl, hq⟩; obtain ⟨q, hq⟩ := hq; obtain ⟨W2, rfl⟩ : ∃ W : World, W = w2 := ⟨_, rfl⟩; have B2 : Hid (Below g0 w W2) := Lib.hid (by rw [hq]; exact below_drewN B1.out q); clear hq)
  go_ret
  rw [HP.out.1, HP.out.2]
  exact ⟨_, rfl, World.ownsRow_lit (base := g0) (e := 9) (size := 1) W2 #[.string X] 1 (by have := B2.out.size; omega) (by simp [maxLen]) rfl, below_al3 B2.out (by have := B2.out.size; omega) _⟩
set_option maxHeartbeats 4000000 in
theorem part_o (d : Deed) (AB AC AK : Option Addr) (nB cB nC cC nK cK : Nat) (w : World)
    (hB : SliceIn w w.heap.size 1 AB nB cB (bytesV d.b)) (hC : SliceIn w w.heap.size 1 AC nC cC (intsV d.calls)) (hK : SliceIn w w.heap.size 1 AK nK cK (boolsV d.keep)) (hd : DeedN d) :
    Calls Try.prog 74 #[.agg (cells8 d (.slice AB nB cB) (.slice AC nC cC) (.slice AK nK cK)).toArray, .int .u8 ((111 : UInt8).toNat : Int)] w fun e w' => ∃ v, e = .returned v ∧ w'.ownsRow w.heap.size 9 1 v (partL d 111).length (strsV (partL d 111)) ∧ Below w.heap.size w w' := by
  rw [c8]
  obtain ⟨g0, hg0⟩ : ∃ g0, w.heap.size = g0 := ⟨_, rfl⟩
  obtain ⟨wa, hwa⟩ : ∃ wa, w.alloc (.cells (cells8 d (.slice AB nB cB) (.slice AC nC cC) (.slice AK nK cK)).toArray 98) = wa := ⟨_, rfl⟩
  rw [hg0]
  rw [hg0] at hB hC hK
  have hz1 : wa.heap.size = g0 + 1 := by rw [← hwa]; simp [hg0]
  have B1 : Hid (Below g0 w wa) := Lib.hid (by rw [← hwa]; exact (Below.refl _ _).alloc (by omega) _)
  have R1 : RowAt wa g0 98 (cells8 d (.slice AB nB cB) (.slice AC nC cC) (.slice AK nK cK)) := by rw [← hwa, ← hg0]; exact RowAt.new w _ _
  have HB := Lib.hid ((hB.below B1.out).more (show g0 ≤ wa.heap.size by omega))
  have HC := Lib.hid ((hC.below B1.out).more (show g0 ≤ wa.heap.size by omega))
  have HK := Lib.hid ((hK.below B1.out).more (show g0 ≤ wa.heap.size by omega))
  have lB : d.b.length = nB := by have := hB.1; rw [bytesV_length] at this; omega
  have lC : d.calls.length = nC := by have := hC.1; rw [intsV_length] at this; omega
  have lK : d.keep.length = nK := by have := hK.1; rw [boolsV_length] at this; omega
  have HD := Lib.hid hd
  have hnB : nB ≤ 10000000 := by have := hd.lb; omega
  have hnC : nC ≤ 1000000 := by have := hd.lc; omega
  have hnK : nK ≤ 1000000 := by have := hd.lk; omega
  rw [c8] at hwa
  have c0 := R1.cell (j := 0) rfl
  have c1 := R1.cell (j := 1) rfl
  have c2 := R1.cell (j := 2) rfl
  have c3 := R1.cell (j := 3) rfl
  have c4 := R1.cell (j := 4) rfl
  have c5 := R1.cell (j := 5) rfl
  have c6 := R1.cell (j := 6) rfl
  have c7 := R1.cell (j := 7) rfl
  have hg1 : g0 < wa.heap.size := by omega
  have e0 : ((111 : UInt8).toNat : Int) = 111 := rfl
  rw [e0]
  have LC := Lib.hid lC
  clear R1 hB hC hK lB lC lK hd e0
  obtain ⟨X, hX⟩ : ∃ S : ByteArray, (⟨(quote27 d.b).toArray⟩ : ByteArray) = S := ⟨_, rfl⟩
  have HP : Hid (partL d 111 = [quote27 d.b] ∧ strsV [quote27 d.b] = [.string X]) := Lib.hid ⟨rfl, by rw [← hX]; rfl⟩
  have DX := Lib.hid (Quote_any AB nB cB d.b wa HB.out (by omega))
  rw [hX] at DX
  clear hX
  go_enter Try.func74, Try.ntmps74
  go_wp2_with (go_at_call 29; refine DX.out.mono ?_; rintro e w2 ⟨rfl, hb2⟩; obtain ⟨W2, rfl⟩ : ∃ W : World, W = w2 := ⟨_, rfl⟩; have B2 := Lib.hid (B1.out.trans (hb2.mono (by omega))); clear hb2)
  go_ret
  rw [HP.out.1, HP.out.2]
  exact ⟨_, rfl, World.ownsRow_lit (base := g0) (e := 9) (size := 1) W2 #[.string X] 1 (by have := B2.out.size; omega) (by simp [maxLen]) rfl, below_al3 B2.out (by have := B2.out.size; omega) _⟩
set_option maxHeartbeats 4000000 in
theorem part_k (d : Deed) (AB AC AK : Option Addr) (nB cB nC cC nK cK : Nat) (w : World)
    (hB : SliceIn w w.heap.size 1 AB nB cB (bytesV d.b)) (hC : SliceIn w w.heap.size 1 AC nC cC (intsV d.calls)) (hK : SliceIn w w.heap.size 1 AK nK cK (boolsV d.keep)) (hd : DeedN d) :
    Calls Try.prog 74 #[.agg (cells8 d (.slice AB nB cB) (.slice AC nC cC) (.slice AK nK cK)).toArray, .int .u8 ((107 : UInt8).toNat : Int)] w fun e w' => ∃ v, e = .returned v ∧ w'.ownsRow w.heap.size 9 1 v (partL d 107).length (strsV (partL d 107)) ∧ Below w.heap.size w w' := by
  rw [c8]
  obtain ⟨g0, hg0⟩ : ∃ g0, w.heap.size = g0 := ⟨_, rfl⟩
  obtain ⟨wa, hwa⟩ : ∃ wa, w.alloc (.cells (cells8 d (.slice AB nB cB) (.slice AC nC cC) (.slice AK nK cK)).toArray 98) = wa := ⟨_, rfl⟩
  rw [hg0]
  rw [hg0] at hB hC hK
  have hz1 : wa.heap.size = g0 + 1 := by rw [← hwa]; simp [hg0]
  have B1 : Hid (Below g0 w wa) := Lib.hid (by rw [← hwa]; exact (Below.refl _ _).alloc (by omega) _)
  have R1 : RowAt wa g0 98 (cells8 d (.slice AB nB cB) (.slice AC nC cC) (.slice AK nK cK)) := by rw [← hwa, ← hg0]; exact RowAt.new w _ _
  have HB := Lib.hid ((hB.below B1.out).more (show g0 ≤ wa.heap.size by omega))
  have HC := Lib.hid ((hC.below B1.out).more (show g0 ≤ wa.heap.size by omega))
  have HK := Lib.hid ((hK.below B1.out).more (show g0 ≤ wa.heap.size by omega))
  have lB : d.b.length = nB := by have := hB.1; rw [bytesV_length] at this; omega
  have lC : d.calls.length = nC := by have := hC.1; rw [intsV_length] at this; omega
  have lK : d.keep.length = nK := by have := hK.1; rw [boolsV_length] at this; omega
  have HD := Lib.hid hd
  have hnB : nB ≤ 10000000 := by have := hd.lb; omega
  have hnC : nC ≤ 1000000 := by have := hd.lc; omega
  have hnK : nK ≤ 1000000 := by have := hd.lk; omega
  rw [c8] at hwa
  have c0 := R1.cell (j := 0) rfl
  have c1 := R1.cell (j := 1) rfl
  have c2 := R1.cell (j := 2) rfl
  have c3 := R1.cell (j := 3) rfl
  have c4 := R1.cell (j := 4) rfl
  have c5 := R1.cell (j := 5) rfl
  have c6 := R1.cell (j := 6) rfl
  have c7 := R1.cell (j := 7) rfl
  have hg1 : g0 < wa.heap.size := by omega
  have e0 : ((107 : UInt8).toNat : Int) = 107 := rfl
  rw [e0]
  have LC := Lib.hid lC
  clear R1 hB hC hK lB lC lK hd e0
  obtain ⟨X, hX⟩ : ∃ S : ByteArray, (⟨(keepL d.keep).toArray⟩ : ByteArray) = S := ⟨_, rfl⟩
  have HP : Hid (partL d 107 = [keepL d.keep] ∧ strsV [keepL d.keep] = [.string X]) := Lib.hid ⟨rfl, by rw [← hX]; rfl⟩
  have DX := Lib.hid (kept_any AK nK cK d.keep wa HK.out (by omega))
  rw [hX] at DX
  clear hX
  go_enter Try.func74, Try.ntmps74
  go_wp2_with (go_at_call 95; refine DX.out.mono ?_; rintro e w2 ⟨rfl, hb2⟩; obtain ⟨W2, rfl⟩ : ∃ W : World, W = w2 := ⟨_, rfl⟩; have B2 := Lib.hid (B1.out.trans (hb2.mono (by omega))); clear hb2)
  go_ret
  rw [HP.out.1, HP.out.2]
  exact ⟨_, rfl, World.ownsRow_lit (base := g0) (e := 9) (size := 1) W2 #[.string X] 1 (by have := B2.out.size; omega) (by simp [maxLen]) rfl, below_al3 B2.out (by have := B2.out.size; omega) _⟩
set_option maxHeartbeats 4000000 in
theorem part_f (d : Deed) (AB AC AK : Option Addr) (nB cB nC cC nK cK : Nat) (w : World)
    (hB : SliceIn w w.heap.size 1 AB nB cB (bytesV d.b)) (hC : SliceIn w w.heap.size 1 AC nC cC (intsV d.calls)) (hK : SliceIn w w.heap.size 1 AK nK cK (boolsV d.keep)) (hd : DeedN d) :
    Calls Try.prog 74 #[.agg (cells8 d (.slice AB nB cB) (.slice AC nC cC) (.slice AK nK cK)).toArray, .int .u8 ((102 : UInt8).toNat : Int)] w fun e w' => ∃ v, e = .returned v ∧ w'.ownsRow w.heap.size 9 1 v (partL d 102).length (strsV (partL d 102)) ∧ Below w.heap.size w w' := by
  rw [c8]
  obtain ⟨g0, hg0⟩ : ∃ g0, w.heap.size = g0 := ⟨_, rfl⟩
  obtain ⟨wa, hwa⟩ : ∃ wa, w.alloc (.cells (cells8 d (.slice AB nB cB) (.slice AC nC cC) (.slice AK nK cK)).toArray 98) = wa := ⟨_, rfl⟩
  rw [hg0]
  rw [hg0] at hB hC hK
  have hz1 : wa.heap.size = g0 + 1 := by rw [← hwa]; simp [hg0]
  have B1 : Hid (Below g0 w wa) := Lib.hid (by rw [← hwa]; exact (Below.refl _ _).alloc (by omega) _)
  have R1 : RowAt wa g0 98 (cells8 d (.slice AB nB cB) (.slice AC nC cC) (.slice AK nK cK)) := by rw [← hwa, ← hg0]; exact RowAt.new w _ _
  have HB := Lib.hid ((hB.below B1.out).more (show g0 ≤ wa.heap.size by omega))
  have HC := Lib.hid ((hC.below B1.out).more (show g0 ≤ wa.heap.size by omega))
  have HK := Lib.hid ((hK.below B1.out).more (show g0 ≤ wa.heap.size by omega))
  have lB : d.b.length = nB := by have := hB.1; rw [bytesV_length] at this; omega
  have lC : d.calls.length = nC := by have := hC.1; rw [intsV_length] at this; omega
  have lK : d.keep.length = nK := by have := hK.1; rw [boolsV_length] at this; omega
  have HD := Lib.hid hd
  have hnB : nB ≤ 10000000 := by have := hd.lb; omega
  have hnC : nC ≤ 1000000 := by have := hd.lc; omega
  have hnK : nK ≤ 1000000 := by have := hd.lk; omega
  rw [c8] at hwa
  have c0 := R1.cell (j := 0) rfl
  have c1 := R1.cell (j := 1) rfl
  have c2 := R1.cell (j := 2) rfl
  have c3 := R1.cell (j := 3) rfl
  have c4 := R1.cell (j := 4) rfl
  have c5 := R1.cell (j := 5) rfl
  have c6 := R1.cell (j := 6) rfl
  have c7 := R1.cell (j := 7) rfl
  have hg1 : g0 < wa.heap.size := by omega
  have e0 : ((102 : UInt8).toNat : Int) = 102 := rfl
  rw [e0]
  have LC := Lib.hid lC
  clear R1 hB hC hK lB lC lK hd e0
  have HP : Hid (partL d 102 = d.calls.map numL) := Lib.hid rfl
  go_enter Try.func74, Try.ntmps74
  go_wp2
  go_loopw [5, 58] (fun out i wr => ∃ k : Nat, k ≤ nC ∧ i = .int .i64 k ∧ wr.ownsRow wa.heap.size 9 1 out k (strsV ((d.calls.take k).map numL)) ∧ Below wa.heap.size wa wr) (fun _ i _ => nC - (intOf i).toNat)
  case atStart => exact ⟨0, by omega, rfl, World.ownsRow_nil _ _ _ _, Below.refl _ _⟩
  case round =>
    obtain ⟨w0, rfl⟩ : ∃ w0 : World, w0 = wr := ⟨_, rfl⟩
    obtain ⟨k, hk, rfl, hrow, hbel⟩ := hrel
    have HB2 := Lib.hid hbel
    have HR := Lib.hid hrow
    have hgs : wa.heap.size ≤ w0.heap.size := hbel.size
    obtain ⟨Ao, co, rfl, _⟩ := own_slice hrow
    by_cases hlt : k < nC
    · obtain ⟨x, hx⟩ : ∃ x, d.calls[k]? = some x := ⟨_, List.getElem?_eq_getElem (by rw [LC.out]; exact hlt)⟩
      have hxi := HD.out.ia x (List.mem_of_getElem? hx)
      obtain ⟨b, off, rfl, hbl, hcc⟩ := HC.out.2.2.2 (by omega)
      have ck := (hbel.cell (p := ⟨b, off + k, none⟩) hbl).trans (hcc k (.int .i64 x) (by simp [intsV, hx]))
      obtain ⟨X, hX⟩ : ∃ S : ByteArray, (⟨(numL x).toArray⟩ : ByteArray) = S := ⟨_, rfl⟩
      have DX := Lib.hid (fun w => snumber_any x hxi.1 hxi.2 w)
      rw [hX] at DX
      have HN : Hid (strsV ((d.calls.take (k + 1)).map numL) = strsV ((d.calls.take k).map numL) ++ [.string X]) := Lib.hid (by
        rw [List.take_add_one, hx, List.map_append, strsV_append2, ← hX]; rfl)
      have ltI : (k : Int) < (nC : Int) := by omega
      clear hx hxi hcc hX hbel hrow
      go_wp2_with (first
        | (go_at_call 94; refine (DX.out _).mono ?_; rintro e w2 ⟨rfl, hq⟩; obtain ⟨q, hq⟩ := hq; obtain ⟨W2, rfl⟩ : ∃ W : World, W = w2 := ⟨_, rfl⟩; have B2 : Hid (Below wa.heap.size wa W2) := Lib.hid (by rw [hq]; exact below_drewN HB2.out q); have R2 : Hid (W2.ownsRow wa.heap.size 9 1 (.slice Ao k co) k (strsV ((d.calls.take k).map numL))) := Lib.hid (by rw [hq]; exact own_below HR.out (below_drewN (Below.refl _ _) q)); have hs2 : wa.heap.size ≤ W2.heap.size := (by rw [hq]; exact hgs); clear hq)
        | (at_builtin; refine wpList_app2 str_ty rfl _ _ rfl wa.heap.size _ k _ rfl R2.out 1 1 [.string X] _ rfl (by simp) (by rfl) (one1 _ rfl) (by omega) (by simp only [maxLen]; omega) (by omega) ?_; intro v' w4 hown hgr))
      go_roundw
      case rel => exact ⟨k + 1, by omega, by go_num, by rw [HN.out]; exact hown, B2.out.grown hgr (by have := B2.out.size; omega) fun q hq => (own_block R2.out q hq).choose_spec.2⟩
      case measure => simp [intOf]; omega
    · obtain rfl : nC = k := by omega
      have hta : d.calls.take nC = d.calls := List.take_of_length_le (by rw [LC.out]; exact Nat.le_refl _)
      rw [hta] at HR
      clear hta hbel hrow
      go_wp2
      go_ret
      rw [HP.out]
      exact ⟨_, rfl, by rw [List.length_map, LC.out]; exact own_base HR.out (by omega), B1.out.trans (HB2.out.mono (by omega))⟩
theorem part_any (d : Deed) (a : UInt8) (ha : isAsk a) (AB AC AK : Option Addr) (nB cB nC cC nK cK : Nat) (w : World)
    (hB : SliceIn w w.heap.size 1 AB nB cB (bytesV d.b)) (hC : SliceIn w w.heap.size 1 AC nC cC (intsV d.calls)) (hK : SliceIn w w.heap.size 1 AK nK cK (boolsV d.keep)) (hd : DeedN d) :
    Calls Try.prog 74 #[.agg (cells8 d (.slice AB nB cB) (.slice AC nC cC) (.slice AK nK cK)).toArray, .int .u8 (a.toNat : Int)] w fun e w' => ∃ v, e = .returned v ∧ w'.ownsRow w.heap.size 9 1 v (partL d a).length (strsV (partL d a)) ∧ Below w.heap.size w w' := by
  rcases ha with rfl | rfl | rfl | rfl | rfl | rfl | rfl
  · exact part_c d AB AC AK nB cB nC cC nK cK w hB hC hK hd
  · exact part_n d AB AC AK nB cB nC cC nK cK w hB hC hK hd
  · exact part_t d AB AC AK nB cB nC cC nK cK w hB hC hK hd
  · exact part_p d AB AC AK nB cB nC cC nK cK w hB hC hK hd
  · exact part_f d AB AC AK nB cB nC cC nK cK w hB hC hK hd
  · exact part_k d AB AC AK nB cB nC cC nK cK w hB hC hK hd
  · exact part_o d AB AC AK nB cB nC cC nK cK w hB hC hK hd
end Go.Proofs.Ytmcioedmjcbfbaa

/- Walk of layer 27: a deed's line, by the code. Condition: slices as they may be, at most 10^6 calls and bits, 10^7 octets. -/
namespace Go.Proofs.Ytmcioedmjcbfbaa
open Go.RowKit IH
set_option maxRecDepth 100000
theorem join_line (x : List UInt8) (r : List (List UInt8)) : Lib.join (x :: r) [32] = x ++ r.flatMap (fun y => 32 :: y) := by
  rw [Lib.join_cons]
  unfold Lib.joinTail
  rw [List.flatMap_def]
  rfl
theorem printD_size {d : Deed} (hd : DeedN d) : (printD d).length ≤ 99999990 := by
  have := print_length hd.ic hd.iN hd.it hd.ip hd.ia
  have := hd.lb
  have := hd.lc
  have := hd.lk
  omega
theorem parts_len {d : Deed} (hd : DeedN d) : ∀ ls : List UInt8, (ls.flatMap (partL d)).length ≤ 1000001 * ls.length
  | [] => by simp
  | a :: ls => by
    have h1 := (part_len hd a).1
    have h2 := parts_len hd ls
    simp only [List.flatMap_cons, List.length_append, List.length_cons]
    omega
set_option maxHeartbeats 8000000 in
theorem sprint_any (d : Deed) (h0 : 0 ≤ d.kind) (h1 : d.kind ≤ 10) (AB AC AK : Option Addr) (nB cB nC cC nK cK : Nat) (w : World)
    (hB : SliceIn w w.heap.size 1 AB nB cB (bytesV d.b)) (hC : SliceIn w w.heap.size 1 AC nC cC (intsV d.calls)) (hK : SliceIn w w.heap.size 1 AK nK cK (boolsV d.keep)) (hd : DeedN d) :
    Calls Try.prog 52 #[.agg (cells8 d (.slice AB nB cB) (.slice AC nC cC) (.slice AK nK cK)).toArray, .agg #[.string ⟨(nameK d.kind).toArray⟩, .int .i64 d.kind, .string ⟨(asksK d.kind).toArray⟩]] w fun e w' =>
      e = .returned (.string ⟨(printD d ++ [10]).toArray⟩) ∧ Below w.heap.size w w' := by
  rw [c8]
  have hline := parts_line h0 h1
  have hall := asksK_all d.kind
  have hlen4 := asksK_len d.kind
  obtain ⟨L, hL⟩ : ∃ L, asksK d.kind = L := ⟨_, rfl⟩
  obtain ⟨nm, hnm⟩ : ∃ nm, nameK d.kind = nm := ⟨_, rfl⟩
  rw [hL] at hall hlen4 hline ⊢
  rw [hnm] at hline ⊢
  obtain ⟨X, hX⟩ : ∃ X : ByteArray, (⟨nm.toArray⟩ : ByteArray) = X := ⟨_, rfl⟩
  obtain ⟨Y, hY⟩ : ∃ Y : ByteArray, (⟨L.toArray⟩ : ByteArray) = Y := ⟨_, rfl⟩
  have hYl : Y.data.toList = L := by rw [← hY]
  have hYs : Y.size = L.length := by rw [← data_len, hYl]
  rw [hX, hY]
  obtain ⟨g0, hg0⟩ : ∃ g0, w.heap.size = g0 := ⟨_, rfl⟩
  obtain ⟨wa, hwa⟩ : ∃ wa, w.alloc (.cells (cells8 d (.slice AB nB cB) (.slice AC nC cC) (.slice AK nK cK)).toArray 98) = wa := ⟨_, rfl⟩
  obtain ⟨wb, hwb⟩ : ∃ wb, wa.alloc (.cells #[.string X, .int .i64 d.kind, .string Y] 94) = wb := ⟨_, rfl⟩
  rw [hg0]
  rw [hg0] at hB hC hK
  have hza : wa.heap.size = g0 + 1 := by rw [← hwa]; simp [hg0]
  have hzb : wb.heap.size = g0 + 2 := by rw [← hwb]; simp [hza]
  have BB : Hid (Below g0 w wb) := Lib.hid (by rw [← hwb, ← hwa]; exact ((Below.refl _ _).alloc (by omega) _).alloc (by simp; omega) _)
  have R1 : RowAt wb g0 98 (cells8 d (.slice AB nB cB) (.slice AC nC cC) (.slice AK nK cK)) := by rw [← hwb, ← hwa, ← hg0]; exact (RowAt.new w _ _).alloc _
  have R2 : RowAt wb (g0 + 1) 94 [.string X, .int .i64 d.kind, .string Y] := by rw [← hwb, ← hza]; exact RowAt.new wa _ [.string X, .int .i64 d.kind, .string Y]
  have r0 := R1.cell (j := 0) rfl
  have r1 := R1.cell (j := 1) rfl
  have r2 := R1.cell (j := 2) rfl
  have r3 := R1.cell (j := 3) rfl
  have r4 := R1.cell (j := 4) rfl
  have r5 := R1.cell (j := 5) rfl
  have r6 := R1.cell (j := 6) rfl
  have r7 := R1.cell (j := 7) rfl
  have f0 := R2.cell (j := 0) rfl
  have f2 := R2.cell (j := 2) rfl
  have HPA : Hid (∀ (a : UInt8), isAsk a → ∀ W, Below wb.heap.size wb W → Calls Try.prog 74 #[.agg #[.int .i64 d.kind, .int .i64 d.conn, .int .i64 d.n, .slice AB nB cB, .slice AC nC cC, .slice AK nK cK, .int .i64 d.torn, .int .i64 d.part], .int .u8 (a.toNat : Int)] W fun e w' => ∃ v, e = .returned v ∧ w'.ownsRow W.heap.size 9 1 v (partL d a).length (strsV (partL d a)) ∧ Below W.heap.size W w') := Lib.hid (fun a ha W hW => by
    have hq := hW.size
    have := part_any d a ha AB AC AK nB cB nC cC nK cK W (((hB.below BB.out).more (show g0 ≤ wb.heap.size by omega)).below hW |>.more hq) (((hC.below BB.out).more (show g0 ≤ wb.heap.size by omega)).below hW |>.more hq) (((hK.below BB.out).more (show g0 ≤ wb.heap.size by omega)).below hW |>.more hq) hd
    rw [c8] at this
    exact this)
  have HSX : Hid (strsV [nm] = [.string X]) := Lib.hid (by rw [← hX]; rfl)
  have HL : Hid (∀ k c, L[k]? = some c → isAsk c) := Lib.hid (fun k c h => hall c (List.mem_of_getElem? h))
  have HYl := Lib.hid hYl
  have HLN := Lib.hid hline
  have HD := Lib.hid hd
  have hps : ∀ k, ((L.take k).flatMap (partL d)).length ≤ 4000004 := fun k => by
    have := parts_len hd (L.take k)
    rw [List.length_take] at this
    omega
  have HPS := Lib.hid hps
  have hg1 : g0 < wb.heap.size := by omega
  have hg2 : g0 + 1 < wb.heap.size := by omega
  rw [c8] at hwa
  clear hline hall hL hnm hX hY hYl R1 R2 hB hC hK hd hps h0 h1
  generalize d.kind = xk at *
  generalize d.conn = xc at *
  generalize d.n = xn at *
  generalize d.torn = xt at *
  generalize d.part = xp at *
  go_enter Try.func52, Try.ntmps52
  go_wp2
  go_loopw [5, 13] (fun out i wr => ∃ k : Nat, k ≤ L.length ∧ i = .int .i64 k ∧ wr.ownsRow wb.heap.size 9 1 out (1 + ((L.take k).flatMap (partL d)).length) (strsV (nm :: (L.take k).flatMap (partL d))) ∧ Below wb.heap.size wb wr) (fun _ i _ => L.length - (intOf i).toNat)
  case atStart =>
    refine ⟨0, by omega, rfl, ?_, (Below.refl _ _).alloc (Nat.le_refl _) _⟩
    show World.ownsRow _ _ _ _ _ 1 (strsV [nm])
    rw [HSX.out]
    have := World.ownsRow_lit (base := wb.heap.size) (e := 9) (size := 1) wb #[.string X] 1 (Nat.le_refl _) (by simp [maxLen]) rfl
    first | exact this | (rw [hzb] at this ⊢; exact this)
  case round =>
    obtain ⟨w0, rfl⟩ : ∃ w0 : World, w0 = wr := ⟨_, rfl⟩
    obtain ⟨k, hk, rfl, hrow, hbel⟩ := hrel
    obtain ⟨Ao, co, rfl, _⟩ := own_slice hrow
    have HB2 := Lib.hid hbel
    have HR := Lib.hid hrow
    have hgs := hbel.size
    have hps1 := HPS.out k
    have hps2 := HPS.out (k + 1)
    by_cases hlt : k < L.length
    · obtain ⟨c, hc⟩ : ∃ c, L[k]? = some c := ⟨_, List.getElem?_eq_getElem hlt⟩
      have hlt2 : k < Y.size := by omega
      have hat : Y[k] = c := by
        have h1 := get_data Y k hlt2
        rw [HYl.out, hc] at h1
        exact (Option.some.inj h1).symm
      have hca := Lib.hid (HL.out k c hc)
      have ltI : (k : Int) < (Y.size : Int) := by omega
      have HT : Hid (L.take (k + 1) = L.take k ++ [c]) := Lib.hid (by rw [List.take_add_one, hc]; rfl)
      have hlen2 : ((L.take (k + 1)).flatMap (partL d)).length = ((L.take k).flatMap (partL d)).length + (partL d c).length := by
        rw [HT.out, List.flatMap_append, List.length_append]; simp
      clear hc hrow hbel
      generalize hm1 : ((L.take k).flatMap (partL d)).length = m1 at *
      generalize hm2 : ((L.take (k + 1)).flatMap (partL d)).length = m2 at *
      generalize hm3 : (partL d c).length = m3 at *
      have Hm2 := Lib.hid hm2
      have Hm3 := Lib.hid hm3
      have Hlen := Lib.hid hlen2
      have hb3 : 1 + m1 + m3 ≤ 4000005 := by omega
      clear hm1 hm2 hm3 hlen2
      go_upto_region 5 with fail
      refine wp_region_tree0 (fun W => Below wb.heap.size wb W) (.take 0 (.take 1 (.take 2 (.take 3 (.take 4 (.take 5 (.node (.fork 6 (.node (.fork 7 (.take 8 (.done)) (.stop))) (.stop))))))))) (by kernel_rfl) (by kernel_rfl) (of_decide_eq_true (by kernel_rfl)) rfl (by kernel_rfl) (below_drewN HB2.out 1) ?_
      intro hH
      iterate 6
        refine tree_take (v := ?_) rfl (by rfl) ?_ ?_
        rotate_left
        · intro w2 hSw
          have x0 := (hSw.cell (p := ⟨g0, 0, none⟩) hg1).trans r0
          have x1 := (hSw.cell (p := ⟨g0, 1, none⟩) hg1).trans r1
          have x2 := (hSw.cell (p := ⟨g0, 2, none⟩) hg1).trans r2
          have x3 := (hSw.cell (p := ⟨g0, 3, none⟩) hg1).trans r3
          have x4 := (hSw.cell (p := ⟨g0, 4, none⟩) hg1).trans r4
          have x5 := (hSw.cell (p := ⟨g0, 5, none⟩) hg1).trans r5
          have x6 := (hSw.cell (p := ⟨g0, 6, none⟩) hg1).trans r6
          have x7 := (hSw.cell (p := ⟨g0, 7, none⟩) hg1).trans r7
          have y2 := (hSw.cell (p := ⟨g0 + 1, 2, none⟩) hg2).trans f2
          clear hSw
          go_simp
          try with_reducible rfl
        try simp only [Act.put, List.setIfInBounds_toArray, List.set_cons_zero, List.set_cons_succ]
      refine tree_node ?_
      refine tree_move rfl (by rfl) (fun K hK => ?_) ?_
      · go_simp
        (with_reducible refine (HPA.out c hca.out _ hH.out).mono ?_)
        rintro e w5 ⟨v5, rfl, ho5, hb5⟩
        rw [Hm3.out] at ho5
        have R5 := Lib.hid (own_below HR.out (show Below w0.heap.size w0 w5 from ⟨hb5.os, hb5.tape, hb5.output, hb5.size, hb5.block⟩))
        obtain ⟨A5, c5, rfl, hs5⟩ := own_slice ho5
        have S5 := Lib.hid hs5
        clear hs5 ho5
        refine hK.out _ _ (hH.out.trans (hb5.mono hgs)) ?_
        clear hH hK hb5 K
        intro hH
        try simp only [Act.put, List.setIfInBounds_toArray, List.set_cons_zero, List.set_cons_succ]
        refine tree_node ?_
        refine tree_move rfl (by rfl) (fun K hK => ?_) ?_
        · refine wp_appS str_ty _ _ rfl wb.heap.size _ (1 + m1) _ rfl R5.out w5.heap.size A5 m3 c5 _ rfl S5.out (strsV_one2 _) (by omega) (by simp only [maxLen]; omega) (by have := hH.out.size; omega) ?_
          intro v6 w6 hown6 hgr6
          refine hK.out _ _ (hH.out.grown hgr6 hH.out.size fun q hq => (own_block R5.out q hq).choose_spec.2) ?_
          have H6 := Lib.hid hown6
          clear hK K hown6 hgr6 R5 S5
          intro hH
          try simp only [Act.put, List.setIfInBounds_toArray, List.set_cons_zero, List.set_cons_succ]
          iterate 1
            refine tree_take (v := ?_) rfl (by rfl) ?_ ?_
            rotate_left
            · intro w2 hSw
              have x0 := (hSw.cell (p := ⟨g0, 0, none⟩) hg1).trans r0
              have x1 := (hSw.cell (p := ⟨g0, 1, none⟩) hg1).trans r1
              have x2 := (hSw.cell (p := ⟨g0, 2, none⟩) hg1).trans r2
              have x3 := (hSw.cell (p := ⟨g0, 3, none⟩) hg1).trans r3
              have x4 := (hSw.cell (p := ⟨g0, 4, none⟩) hg1).trans r4
              have x5 := (hSw.cell (p := ⟨g0, 5, none⟩) hg1).trans r5
              have x6 := (hSw.cell (p := ⟨g0, 6, none⟩) hg1).trans r6
              have x7 := (hSw.cell (p := ⟨g0, 7, none⟩) hg1).trans r7
              have y2 := (hSw.cell (p := ⟨g0 + 1, 2, none⟩) hg2).trans f2
              clear hSw
              go_simp
              try with_reducible rfl
            try simp only [Act.put, List.setIfInBounds_toArray, List.set_cons_zero, List.set_cons_succ]
          refine tree_done ?_
          go_wp2_with fail
          go_roundw
          case rel => exact ⟨k + 1, by omega, by go_num, by rw [Hm2.out, HT.out, List.flatMap_append, ← List.cons_append, strsV_append2, Hlen.out, ← Nat.add_assoc]; simpa using H6.out, hH.out⟩
          case measure => simp [intOf]; omega
        exact tree_stop
      exact tree_stop
    · obtain rfl : k = L.length := by omega
      rw [List.take_length] at HR hps1 ⊢
      obtain ⟨bk, cap, he, hb1, hb2, hcells⟩ := own_at HR.out (by omega)
      injection he with he1 _ he3
      subst he1 he3
      obtain ⟨P, hP⟩ : ∃ P, L.flatMap (partL d) = P := ⟨_, rfl⟩
      rw [hP] at HR hcells hps1
      have hxs : ((nm :: P).map fun l => (⟨l.toArray⟩ : ByteArray)).map (·.data.toList) = nm :: P := by
        rw [List.map_map]
        conv => rhs; rw [← List.map_id (nm :: P)]
        rfl
      have hjoin : Lib.join (((nm :: P).map fun l => (⟨l.toArray⟩ : ByteArray)).map (·.data.toList)) (⟨#[32]⟩ : ByteArray).data.toList = printD d := by
        rw [hxs, show (⟨#[32]⟩ : ByteArray).data.toList = [32] from rfl, join_line, ← hP]
        exact HLN.out
      have hpz := printD_size HD.out
      have JJ := Try.strings_Join bk 0 co ((nm :: P).map fun l => (⟨l.toArray⟩ : ByteArray)) ⟨#[32]⟩ w0 (fun j x hx => by
        rw [Nat.zero_add]
        refine hcells j (.string x) ?_
        rw [show strsV (nm :: P) = ((nm :: P).map fun l => (⟨l.toArray⟩ : ByteArray)).map .string by simp [strsV]]
        rw [List.getElem?_map, hx]; rfl) hb2 (by rw [List.length_map, List.length_cons]; omega) (by
          have := (SliceIn.of_own HR.out).2.1
          rw [List.length_map, List.length_cons]; omega) (by rw [hjoin]; omega)
      rw [hjoin] at JJ
      have hl1 : ((nm :: P).map fun l => (⟨l.toArray⟩ : ByteArray)).length = 1 + P.length := by rw [List.length_map, List.length_cons]; omega
      rw [hl1] at JJ
      replace JJ := Lib.hid JJ
      obtain ⟨Z, hZ⟩ : ∃ Z : ByteArray, (⟨(printD d).toArray⟩ : ByteArray) = Z := ⟨_, rfl⟩
      have hZs : Z.size ≤ 99999990 := by rw [← hZ, size_mk]; exact hpz
      rw [hZ] at JJ
      have HF : Hid ((Z ++ (⟨#[10]⟩ : ByteArray)).data.toList = printD d ++ [10]) := Lib.hid (by rw [append_data, ← hZ])
      rw [hP]
      generalize P.length = np at *
      clear hrow hbel hcells hxs hjoin hpz hl1 hZ hP HR hlt
      go_wp2_with (go_at_call 75; refine JJ.out.mono ?_; rintro e w5 ⟨rfl, hb5⟩)
      go_ret
      exact ⟨ret_str (bytes_eq HF.out), (BB.out.trans (HB2.out.mono (by omega))).trans (hb5.mono (by omega))⟩
end Go.Proofs.Ytmcioedmjcbfbaa
