/- Walks of layer 19: an entry out of octets, by the document. Condition: at most 10^9 octets. Printed by mken27.py. -/
import Derived.Test.YtkodeeneljkgeaaDoorEnU
import Derived.Test.YtkodeeneljkgeaaDoorEs
import Derived.Test.YtkodeeneljkgeaaDoorEn7
namespace Go.Proofs.YtkodeeneljkgeaaDoor
open Go.RowKit IH
set_option maxRecDepth 100000
theorem results_cell_tmp {P : Program} {fn : Func} {t u : Tmp} {ty : TypeId} (h : fn.results = #[.cell t ty, .tmp u]) (tmps : Array Value) (w : World) (a : Addr) (ht : tmps.getD t undef = .pointer (some a)) (v x : Value) (hu : tmps.getD u undef = x)
    (hl : (loadVar ty a).run P w = .ok v w) : (results fn tmps).run P w = .ok (.tuple #[v, x]) w := by
  simp only [Array.getD_eq_getD_getElem?] at ht hu
  simp [results, h, ht, hu, asAddr, hl]
theorem getT_at {l t r : List UInt8} {p : Nat} (hp : p ≤ l.length) (h : getT (l.drop p) = some (t, r)) : r = l.drop (p + 2 + t.length) ∧ p + 2 + t.length ≤ l.length := by
  obtain ⟨n, r1, h1, h2, rfl, rfl⟩ := getT_some h
  rw [getN_at hp] at h1
  split at h1
  · cases h1
  · simp only [Option.some.injEq, Prod.mk.injEq] at h1
    obtain ⟨_, rfl⟩ := h1
    rw [List.length_drop] at h2
    have hl : (List.take n (l.drop (p + 2))).length = n := by rw [List.length_take, List.length_drop]; omega
    rw [hl, List.drop_drop]
    exact ⟨rfl, by omega⟩
theorem getN1_at {l r : List UInt8} {p m : Nat} (hp : p ≤ l.length) (h : getN 1 (l.drop p) = some (m, r)) : r = l.drop (p + 1) ∧ p + 1 ≤ l.length ∧ m < 256 := by
  have hm := (getN_lt h).1
  rw [getN_at hp] at h
  split at h
  · cases h
  · simp only [Option.some.injEq, Prod.mk.injEq] at h
    obtain ⟨_, rfl⟩ := h
    exact ⟨rfl, by omega, by omega⟩
theorem said_none (B b0 off n c : Nat) (l : List UInt8) (p : Nat) (w : World) (hin : SliceIn w B 1 (some ⟨b0, off, none⟩) n c (bytesV l)) (hn : n ≤ 1000000000) (hp : p ≤ n) (hg : getT (l.drop p) = none) :
    Calls Tryd.prog 21 #[.slice (some ⟨b0, off, none⟩) n c, .int .i64 p] w fun e w' => e = .returned (.tuple #[.string ⟨#[]⟩, .int .i64 0, .bool false]) ∧ w = w' := by
  refine (said_form B b0 off n c l p w hin hn hp).mono ?_
  rintro e w' ⟨⟨_, rfl⟩ | ⟨t, h, _⟩, rfl⟩
  · exact ⟨rfl, rfl⟩
  · rw [hg] at h; cases h
theorem said_some (B b0 off n c : Nat) (l : List UInt8) (p q : Nat) (t r : List UInt8) (w : World) (hin : SliceIn w B 1 (some ⟨b0, off, none⟩) n c (bytesV l)) (hn : n ≤ 1000000000) (hp : p ≤ n) (hg : getT (l.drop p) = some (t, r)) (hq : p + 2 + t.length = q) :
    Calls Tryd.prog 21 #[.slice (some ⟨b0, off, none⟩) n c, .int .i64 p] w fun e w' => e = .returned (.tuple #[.string ⟨t.toArray⟩, .int .i64 q, .bool true]) ∧ w = w' := by
  refine (said_form B b0 off n c l p w hin hn hp).mono ?_
  rintro e w' ⟨⟨h, _⟩ | ⟨t', h, _, rfl⟩, rfl⟩
  · rw [hg] at h; cases h
  · rw [hg] at h
    simp only [Option.some.injEq, Prod.mk.injEq] at h
    obtain ⟨rfl, _⟩ := h
    exact ⟨by rw [hq], rfl⟩
theorem got1_none (B : Nat) (A : Option Addr) (n c : Nat) (l : List UInt8) (p : Nat) (w : World) (hin : SliceIn w B 1 A n c (bytesV l)) (hn : n ≤ 1000000000) (hp : p ≤ n) (hg : getN 1 (l.drop p) = none) :
    Calls Tryd.prog 20 #[.slice A n c, .int .i64 p, .int .i64 1] w fun e w' => e = .returned (.tuple #[.int .i64 0, .bool false]) ∧ w = w' := by
  refine (got_form B A n c l p 1 w hin hn hp (by omega)).mono ?_
  rintro e w' ⟨⟨_, rfl⟩ | ⟨m, h, _⟩, rfl⟩
  · exact ⟨rfl, rfl⟩
  · rw [hg] at h; cases h
theorem got1_some (B : Nat) (A : Option Addr) (n c : Nat) (l r : List UInt8) (p m : Nat) (w : World) (hin : SliceIn w B 1 A n c (bytesV l)) (hn : n ≤ 1000000000) (hp : p ≤ n) (hg : getN 1 (l.drop p) = some (m, r)) :
    Calls Tryd.prog 20 #[.slice A n c, .int .i64 p, .int .i64 1] w fun e w' => e = .returned (.tuple #[.int .i64 m, .bool true]) ∧ w = w' := by
  have hm := (getN_lt hg).1
  refine (got_form B A n c l p 1 w hin hn hp (by omega)).mono ?_
  rintro e w' ⟨⟨h, _⟩ | ⟨m', h, _, rfl⟩, rfl⟩
  · rw [hg] at h; cases h
  · rw [hg] at h
    simp only [Option.some.injEq, Prod.mk.injEq] at h
    obtain ⟨rfl, _⟩ := h
    exact ⟨by rw [i64_small (by omega)], rfl⟩
theorem got4_some (B : Nat) (A : Option Addr) (n c : Nat) (l : List UInt8) (p m : Nat) (q : Int) (w : World) (hin : SliceIn w B 1 A n c (bytesV l)) (hn : n ≤ 1000000000) (hp : p + 4 ≤ n) (hm : valB ((l.drop p).take 4) = m) (hm2 : m < 4294967296) (hq : (p : Int) = q) :
    Calls Tryd.prog 20 #[.slice A n c, .int .i64 q, .int .i64 4] w fun e w' => e = .returned (.tuple #[.int .i64 m, .bool true]) ∧ w = w' := by
  have h := got_ok B A n c l p 4 w hin hn (by omega) hp
  rw [hm, i64_small (by omega), hq] at h
  exact h
/-- How a reading by the document stands: the entry, the result's cells, all else as it was. -/
structure DoE (s0 : Nat) (w W : World) (cs : List Value) : Prop where
  e : RowAt W (s0 + 1) 33 cs
  z : RowAt W s0 33 zeroE
  b : Below s0 w W
theorem DoE.put {s0 : Nat} {w W : World} {cs : List Value} (h : DoE s0 w W cs) {j : Nat} (hj : j < cs.length) (v : Value) : DoE s0 w (W.setCell ⟨s0 + 1, j, none⟩ v) (cs.set j v) :=
  ⟨h.e.set_ hj v, h.z.far (by show s0 ≠ s0 + 1; omega) v, h.b.trans (below_put s0 W _ v (by show s0 ≤ s0 + 1; omega))⟩
theorem DoE.mid {s0 : Nat} {w W W' : World} {cs : List Value} (h : DoE s0 w W cs) (hb : Below (s0 + 2) W W') : DoE s0 w W' cs :=
  ⟨h.e.below hb (by omega), h.z.below hb (by omega), h.b.trans (hb.mono (by omega))⟩
theorem own_cellsS {w : World} {base n : Nat} {v : Value} {L : List (List UInt8)} (h : w.ownsRow base 9 1 v n (strsV L)) (hn : 0 < n) :
    ∃ b o c, v = .slice (some ⟨b, o, none⟩) n c ∧ n ≤ c ∧ ∀ w' : World, w'.ownsRow base 9 1 v n (strsV L) → ∀ j x, L[j]? = some x → w'.cell? ⟨b, o + j, none⟩ = some (.string ⟨x.toArray⟩) := by
  obtain ⟨A, c, rfl, hs⟩ := own_slice h
  obtain ⟨b, o, rfl, _, _⟩ := hs.2.2.2 hn
  refine ⟨b, o, c, rfl, hs.2.1, fun w' h' j x hx => ?_⟩
  obtain ⟨A', c', e, hs'⟩ := own_slice h'
  injection e with e1 e2 e3
  subst e1 e3
  obtain ⟨b', o', e, _, hc⟩ := hs'.2.2.2 hn
  injection e with e
  injection e with e1 e2 _
  subst e1 e2
  exact hc j _ (by simp [strsV, hx])
theorem do_new (w : World) : DoE w.heap.size w ((w.alloc (.cells #[.string ⟨#[]⟩, .slice none 0 0, .string ⟨#[]⟩, .string ⟨#[]⟩, .string ⟨#[]⟩, .int .i64 0, .string ⟨#[]⟩, .int .i64 0, .slice none 0 0, .int .i64 0, .int .i64 0, .int .i64 0, .int .i64 0, .int .u32 0, .slice none 0 0] 33)).alloc (.cells #[.string ⟨#[]⟩, .slice none 0 0, .string ⟨#[]⟩, .string ⟨#[]⟩, .string ⟨#[]⟩, .int .i64 0, .string ⟨#[]⟩, .int .i64 0, .slice none 0 0, .int .i64 0, .int .i64 0, .int .i64 0, .int .i64 0, .int .u32 0, .slice none 0 0] 33)) zeroE := by
  have hr := RowAt.new (w.alloc (.cells #[.string ⟨#[]⟩, .slice none 0 0, .string ⟨#[]⟩, .string ⟨#[]⟩, .string ⟨#[]⟩, .int .i64 0, .string ⟨#[]⟩, .int .i64 0, .slice none 0 0, .int .i64 0, .int .i64 0, .int .i64 0, .int .i64 0, .int .u32 0, .slice none 0 0] 33)) 33 [.string ⟨#[]⟩, .slice none 0 0, .string ⟨#[]⟩, .string ⟨#[]⟩, .string ⟨#[]⟩, .int .i64 0, .string ⟨#[]⟩, .int .i64 0, .slice none 0 0, .int .i64 0, .int .i64 0, .int .i64 0, .int .i64 0, .int .u32 0, .slice none 0 0]
  rw [World.size_alloc] at hr
  exact ⟨hr, (RowAt.new w 33 [.string ⟨#[]⟩, .slice none 0 0, .string ⟨#[]⟩, .string ⟨#[]⟩, .string ⟨#[]⟩, .int .i64 0, .string ⟨#[]⟩, .int .i64 0, .slice none 0 0, .int .i64 0, .int .i64 0, .int .i64 0, .int .i64 0, .int .u32 0, .slice none 0 0]).alloc _, ((Below.refl _ _).alloc (Nat.le_refl _) _).alloc (by simp) _⟩
set_option maxHeartbeats 16000000 in
theorem runp_bad1 (A : Option Addr) (n c : Nat) (w : World) (h : n < 36) :
    Calls Tryd.prog 8 #[.slice A n c] w fun x w' => x = .returned (.tuple #[.agg zeroE.toArray, .bool false]) ∧ Below w.heap.size w w' := by
  have NN := Lib.hid (do_new w)
  obtain ⟨W1, hW1⟩ : ∃ W : World, (w.alloc (.cells #[.string ⟨#[]⟩, .slice none 0 0, .string ⟨#[]⟩, .string ⟨#[]⟩, .string ⟨#[]⟩, .int .i64 0, .string ⟨#[]⟩, .int .i64 0, .slice none 0 0, .int .i64 0, .int .i64 0, .int .i64 0, .int .i64 0, .int .u32 0, .slice none 0 0] 33)).alloc (.cells #[.string ⟨#[]⟩, .slice none 0 0, .string ⟨#[]⟩, .string ⟨#[]⟩, .string ⟨#[]⟩, .int .i64 0, .string ⟨#[]⟩, .int .i64 0, .slice none 0 0, .int .i64 0, .int .i64 0, .int .i64 0, .int .i64 0, .int .u32 0, .slice none 0 0] 33) = W := ⟨_, rfl⟩
  rw [hW1] at NN
  have HZi : Hid ((Tryd.prog.info? 33).map (·.size) = some zeroE.length) := Lib.hid (by kernel_rfl)
  have HZ1 : Hid (∀ v ∈ zeroE, v.oneCell' = true) := Lib.hid (by simp [zeroE, Value.oneCell'])
  have h2 : (n : Int) < 36 := by omega
  clear h
  go_enter Tryd.func8, Tryd.ntmps8
  go_wp2_with (first
    | (refine wpList_load_g (wanted_un rfl) 33 _ rfl (w.heap.size + 1) 0 rfl zeroE _ (rangeOf NN.out.e) Tryd.underlying33 rfl HZi.out ?_)
    | (refine wpList_store_row rfl 33 _ _ rfl w.heap.size _ zeroE zeroE rfl rfl NN.out.z rfl HZi.out HZ1.out ?_; intro wz hrz hoz; have RZ := Lib.hid hrz; have OZ := Lib.hid hoz; clear hrz hoz))
  exact bodyPost_ret (v := .tuple #[.agg zeroE.toArray, .bool false]) (results_cell_tmp Tryd.results8 _ wz ⟨w.heap.size, 0, none⟩ rfl (.agg zeroE.toArray) (.bool false) rfl (run_loadVar_mid wz w.heap.size 0 33 zeroE _ (rangeOf RZ.out) Tryd.underlying33 rfl HZi.out)) rfl ⟨rfl, NN.out.b.trans (OZ.out.below (Below.refl w.heap.size W1) (Nat.le_refl _))⟩
set_option maxHeartbeats 16000000 in
theorem runp_bad2 (A : Option Addr) (n c : Nat) (w : World) (h : 8000 < n) :
    Calls Tryd.prog 8 #[.slice A n c] w fun x w' => x = .returned (.tuple #[.agg zeroE.toArray, .bool false]) ∧ Below w.heap.size w w' := by
  have NN := Lib.hid (do_new w)
  obtain ⟨W1, hW1⟩ : ∃ W : World, (w.alloc (.cells #[.string ⟨#[]⟩, .slice none 0 0, .string ⟨#[]⟩, .string ⟨#[]⟩, .string ⟨#[]⟩, .int .i64 0, .string ⟨#[]⟩, .int .i64 0, .slice none 0 0, .int .i64 0, .int .i64 0, .int .i64 0, .int .i64 0, .int .u32 0, .slice none 0 0] 33)).alloc (.cells #[.string ⟨#[]⟩, .slice none 0 0, .string ⟨#[]⟩, .string ⟨#[]⟩, .string ⟨#[]⟩, .int .i64 0, .string ⟨#[]⟩, .int .i64 0, .slice none 0 0, .int .i64 0, .int .i64 0, .int .i64 0, .int .i64 0, .int .u32 0, .slice none 0 0] 33) = W := ⟨_, rfl⟩
  rw [hW1] at NN
  have HZi : Hid ((Tryd.prog.info? 33).map (·.size) = some zeroE.length) := Lib.hid (by kernel_rfl)
  have HZ1 : Hid (∀ v ∈ zeroE, v.oneCell' = true) := Lib.hid (by simp [zeroE, Value.oneCell'])
  have h1 : ¬ (n : Int) < 36 := by omega
  have h2 : (8000 : Int) < (n : Int) := by omega
  clear h
  go_enter Tryd.func8, Tryd.ntmps8
  go_wp2_with (first
    | (refine wpList_load_g (wanted_un rfl) 33 _ rfl (w.heap.size + 1) 0 rfl zeroE _ (rangeOf NN.out.e) Tryd.underlying33 rfl HZi.out ?_)
    | (refine wpList_store_row rfl 33 _ _ rfl w.heap.size _ zeroE zeroE rfl rfl NN.out.z rfl HZi.out HZ1.out ?_; intro wz hrz hoz; have RZ := Lib.hid hrz; have OZ := Lib.hid hoz; clear hrz hoz))
  exact bodyPost_ret (v := .tuple #[.agg zeroE.toArray, .bool false]) (results_cell_tmp Tryd.results8 _ wz ⟨w.heap.size, 0, none⟩ rfl (.agg zeroE.toArray) (.bool false) rfl (run_loadVar_mid wz w.heap.size 0 33 zeroE _ (rangeOf RZ.out) Tryd.underlying33 rfl HZi.out)) rfl ⟨rfl, NN.out.b.trans (OZ.out.below (Below.refl w.heap.size W1) (Nat.le_refl _))⟩
set_option maxHeartbeats 16000000 in
theorem runp_bad3 (b0 off n c : Nat) (x : UInt8) (w : World) (hc : w.cell? ⟨b0, off, none⟩ = some (.int .u8 x.toNat)) (hb : b0 < w.heap.size) (h : 36 ≤ n) (h8 : n ≤ 8000) (hx : x ≠ 69) :
    Calls Tryd.prog 8 #[.slice (some ⟨b0, off, none⟩) n c] w fun x w' => x = .returned (.tuple #[.agg zeroE.toArray, .bool false]) ∧ Below w.heap.size w w' := by
  have NN := Lib.hid (do_new w)
  obtain ⟨W1, hW1⟩ : ∃ W : World, (w.alloc (.cells #[.string ⟨#[]⟩, .slice none 0 0, .string ⟨#[]⟩, .string ⟨#[]⟩, .string ⟨#[]⟩, .int .i64 0, .string ⟨#[]⟩, .int .i64 0, .slice none 0 0, .int .i64 0, .int .i64 0, .int .i64 0, .int .i64 0, .int .u32 0, .slice none 0 0] 33)).alloc (.cells #[.string ⟨#[]⟩, .slice none 0 0, .string ⟨#[]⟩, .string ⟨#[]⟩, .string ⟨#[]⟩, .int .i64 0, .string ⟨#[]⟩, .int .i64 0, .slice none 0 0, .int .i64 0, .int .i64 0, .int .i64 0, .int .i64 0, .int .u32 0, .slice none 0 0] 33) = W := ⟨_, rfl⟩
  rw [hW1] at NN
  have HZi : Hid ((Tryd.prog.info? 33).map (·.size) = some zeroE.length) := Lib.hid (by kernel_rfl)
  have HZ1 : Hid (∀ v ∈ zeroE, v.oneCell' = true) := Lib.hid (by simp [zeroE, Value.oneCell'])
  have h1 : ¬ (n : Int) < 36 := by omega
  have h2 : ¬ (8000 : Int) < (n : Int) := by omega
  have h3 : (0 : Int) < (n : Int) := by omega
  have e69 : ((x.toNat : Int) == 69) = false := by rw [beq_eq_false_iff_ne]; intro h; exact hx (UInt8.toNat_inj.1 (by have : (69 : UInt8).toNat = 69 := rfl; omega))
  have n69 : ((x.toNat : Int) != 69) = true := by rw [bne, e69]; rfl
  have c0 := (NN.out.b.cell (p := ⟨b0, off, none⟩) hb).trans hc
  clear h h8 hx hc
  go_enter Tryd.func8, Tryd.ntmps8
  go_wp2_with (first
    | (refine wpList_load_g (wanted_un rfl) 33 _ rfl (w.heap.size + 1) 0 rfl zeroE _ (rangeOf NN.out.e) Tryd.underlying33 rfl HZi.out ?_)
    | (refine wpList_store_row rfl 33 _ _ rfl w.heap.size _ zeroE zeroE rfl rfl NN.out.z rfl HZi.out HZ1.out ?_; intro wz hrz hoz; have RZ := Lib.hid hrz; have OZ := Lib.hid hoz; clear hrz hoz))
  exact bodyPost_ret (v := .tuple #[.agg zeroE.toArray, .bool false]) (results_cell_tmp Tryd.results8 _ wz ⟨w.heap.size, 0, none⟩ rfl (.agg zeroE.toArray) (.bool false) rfl (run_loadVar_mid wz w.heap.size 0 33 zeroE _ (rangeOf RZ.out) Tryd.underlying33 rfl HZi.out)) rfl ⟨rfl, NN.out.b.trans (OZ.out.below (Below.refl w.heap.size W1) (Nat.le_refl _))⟩
set_option maxHeartbeats 64000000 in
theorem runp_good (b0 off n c : Nat) (l : List UInt8) (w : World) (hin : SliceIn w w.heap.size 1 (some ⟨b0, off, none⟩) n c (bytesV l)) (h36 : 36 ≤ n) (h8 : n ≤ 8000) (h0 : l.head? = some 69)
    (hes : ∀ e r, readE l = some (e, r) → ∀ W p, EntIn W W.heap.size e p → EntS e p) :
    Calls Tryd.prog 8 #[.slice (some ⟨b0, off, none⟩) n c] w fun x w' =>
      ((unpackE l = none ∧ x = .returned (.tuple #[.agg zeroE.toArray, .bool false])) ∨ (∃ e p, unpackE l = some e ∧ x = .returned (.tuple #[.agg (entC e p).toArray, .bool true]) ∧ EntIn w' w'.heap.size e p)) ∧ Below w.heap.size w w' := by
  have hll : l.length = n := by have := hin.1; rw [bytesV_length] at this; omega
  have hnc := hin.2.1
  rw [unpack_doc (by omega) h0 (by omega)]
  have HIN := Lib.hid hin
  have HES : Hid (∀ h T N F X, headU l = h → (∃ s, getAll getT 3 (l.drop 36) = some (T, s) ∧ restR h T s = some (mkE h T N F X, [])) → ∀ W p, EntIn W W.heap.size (mkE h T N F X) p → EntS (mkE h T N F X) p) := Lib.hid (fun h T N F X hh hx W p => by
    obtain ⟨s, h1, h2⟩ := hx
    refine hes _ [] ?_ W p
    unfold readE
    rw [head_of (by omega) h0]
    simp only
    rw [hh, tail_three, h1]
    exact h2)
  obtain ⟨OUT, hOUT⟩ : ∃ x, tailU (headU l) (l.drop 36) = x := ⟨_, rfl⟩
  rw [hOUT]
  have NN := Lib.hid (do_new w)
  obtain ⟨W1, hW1⟩ : ∃ W : World, (w.alloc (.cells #[.string ⟨#[]⟩, .slice none 0 0, .string ⟨#[]⟩, .string ⟨#[]⟩, .string ⟨#[]⟩, .int .i64 0, .string ⟨#[]⟩, .int .i64 0, .slice none 0 0, .int .i64 0, .int .i64 0, .int .i64 0, .int .i64 0, .int .u32 0, .slice none 0 0] 33)).alloc (.cells #[.string ⟨#[]⟩, .slice none 0 0, .string ⟨#[]⟩, .string ⟨#[]⟩, .string ⟨#[]⟩, .int .i64 0, .string ⟨#[]⟩, .int .i64 0, .slice none 0 0, .int .i64 0, .int .i64 0, .int .i64 0, .int .i64 0, .int .u32 0, .slice none 0 0] 33) = W := ⟨_, rfl⟩
  rw [hW1] at NN
  have HZi : Hid ((Tryd.prog.info? 33).map (·.size) = some zeroE.length) := Lib.hid (by kernel_rfl)
  have HZ1 : Hid (∀ v ∈ zeroE, v.oneCell' = true) := Lib.hid (by simp [zeroE, Value.oneCell'])
  have hhead : w.cell? ⟨b0, off, none⟩ = some (.int .u8 69) := by
    obtain ⟨b', o', e, _, hc⟩ := hin.2.2.2 (by omega)
    injection e with e
    injection e with e1 e2 _
    subst e1 e2
    have := hc 0 (.int .u8 69) (by rw [bytesV_get]; cases l with | nil => cases h0 | cons x r => (simp only [List.head?_cons, Option.some.injEq] at h0; subst h0; rfl))
    exact this
  have hb0 : b0 < w.heap.size := by
    obtain ⟨b', o', e, hb, _⟩ := hin.2.2.2 (by omega)
    injection e with e
    injection e with e1 _ _
    subst e1
    exact hb
  have c0 := (NN.out.b.cell (p := ⟨b0, off, none⟩) hb0).trans hhead
  have h1 : ¬ (n : Int) < 36 := by omega
  have h2 : ¬ (8000 : Int) < (n : Int) := by omega
  have h3 : (0 : Int) < (n : Int) := by omega
  have hn9 : n ≤ 1000000000 := by omega
  have LT : ∀ p k, p + k ≤ n → valB ((l.drop p).take k) < 256 ^ k := fun p k hp => by have := valB_lt ((l.drop p).take k); rwa [List.length_take, List.length_drop, show min k (l.length - p) = k by omega] at this
  obtain ⟨m2, hm2⟩ : ∃ m, valB ((l.drop 1).take 2) = m := ⟨_, rfl⟩
  have hv2 : m2 < 65536 := by have h := LT 1 2 (by omega); rw [hm2] at h; exact h
  have G2 : Hid (∀ W, Below w.heap.size w W → Calls Tryd.prog 20 #[.slice (some ⟨b0, off, none⟩) n c, .int .i64 1, .int .i64 2] W fun e w' => e = .returned (.tuple #[.int .i64 m2, .bool true]) ∧ W = w') := Lib.hid (fun W hW => by have h := got_ok w.heap.size _ n c l 1 2 W (HIN.out.below hW) hn9 (by omega) (by omega); rw [hm2, i64_small (by omega)] at h; exact h)
  obtain ⟨m3, hm3⟩ : ∃ m, valB ((l.drop 3).take 1) = m := ⟨_, rfl⟩
  have hv3 : m3 < 256 := by have h := LT 3 1 (by omega); rw [hm3] at h; exact h
  have G3 : Hid (∀ W, Below w.heap.size w W → Calls Tryd.prog 20 #[.slice (some ⟨b0, off, none⟩) n c, .int .i64 3, .int .i64 1] W fun e w' => e = .returned (.tuple #[.int .i64 m3, .bool true]) ∧ W = w') := Lib.hid (fun W hW => by have h := got_ok w.heap.size _ n c l 3 1 W (HIN.out.below hW) hn9 (by omega) (by omega); rw [hm3, i64_small (by omega)] at h; exact h)
  obtain ⟨m4, hm4⟩ : ∃ m, valB ((l.drop 4).take 8) = m := ⟨_, rfl⟩
  have G4 : Hid (∀ W, Below w.heap.size w W → Calls Tryd.prog 20 #[.slice (some ⟨b0, off, none⟩) n c, .int .i64 4, .int .i64 8] W fun e w' => e = .returned (.tuple #[.int .i64 (i64 m4), .bool true]) ∧ W = w') := Lib.hid (fun W hW => by have h := got_ok w.heap.size _ n c l 4 8 W (HIN.out.below hW) hn9 (by omega) (by omega); rw [hm4] at h; exact h)
  obtain ⟨m5, hm5⟩ : ∃ m, valB ((l.drop 12).take 8) = m := ⟨_, rfl⟩
  have G5 : Hid (∀ W, Below w.heap.size w W → Calls Tryd.prog 20 #[.slice (some ⟨b0, off, none⟩) n c, .int .i64 12, .int .i64 8] W fun e w' => e = .returned (.tuple #[.int .i64 (i64 m5), .bool true]) ∧ W = w') := Lib.hid (fun W hW => by have h := got_ok w.heap.size _ n c l 12 8 W (HIN.out.below hW) hn9 (by omega) (by omega); rw [hm5] at h; exact h)
  obtain ⟨m6, hm6⟩ : ∃ m, valB ((l.drop 20).take 8) = m := ⟨_, rfl⟩
  have G6 : Hid (∀ W, Below w.heap.size w W → Calls Tryd.prog 20 #[.slice (some ⟨b0, off, none⟩) n c, .int .i64 20, .int .i64 8] W fun e w' => e = .returned (.tuple #[.int .i64 (i64 m6), .bool true]) ∧ W = w') := Lib.hid (fun W hW => by have h := got_ok w.heap.size _ n c l 20 8 W (HIN.out.below hW) hn9 (by omega) (by omega); rw [hm6] at h; exact h)
  obtain ⟨m7, hm7⟩ : ∃ m, valB ((l.drop 28).take 4) = m := ⟨_, rfl⟩
  have hv7 : m7 < 4294967296 := by have h := LT 28 4 (by omega); rw [hm7] at h; exact h
  have G7 : Hid (∀ W, Below w.heap.size w W → Calls Tryd.prog 20 #[.slice (some ⟨b0, off, none⟩) n c, .int .i64 28, .int .i64 4] W fun e w' => e = .returned (.tuple #[.int .i64 m7, .bool true]) ∧ W = w') := Lib.hid (fun W hW => by have h := got_ok w.heap.size _ n c l 28 4 W (HIN.out.below hW) hn9 (by omega) (by omega); rw [hm7, i64_small (by omega)] at h; exact h)
  obtain ⟨m8, hm8⟩ : ∃ m, valB ((l.drop 32).take 4) = m := ⟨_, rfl⟩
  have hv8 : m8 < 4294967296 := by have h := LT 32 4 (by omega); rw [hm8] at h; exact h
  have G8 : Hid (∀ W, Below w.heap.size w W → Calls Tryd.prog 20 #[.slice (some ⟨b0, off, none⟩) n c, .int .i64 32, .int .i64 4] W fun e w' => e = .returned (.tuple #[.int .i64 m8, .bool true]) ∧ W = w') := Lib.hid (fun W hW => by have h := got_ok w.heap.size _ n c l 32 4 W (HIN.out.below hW) hn9 (by omega) (by omega); rw [hm8, i64_small (by omega)] at h; exact h)
  have hw8 : IntKind.u32.wrap (m8 : Int) = (m8 : Int) := by simp [IntKind.wrap, show IntKind.u32.bits = 32 from rfl, show IntKind.u32.signed = false from rfl]; omega
  have hH : headU l = ⟨m2, m3, m4, m5, m6, m7, m8⟩ := by unfold headU; rw [hm2, hm3, hm4, hm5, hm6, hm7, hm8]
  obtain ⟨H, hHe⟩ : ∃ h : Head19, h = ⟨m2, m3, m4, m5, m6, m7, m8⟩ := ⟨_, rfl⟩
  rw [← hHe] at hH
  rw [hH] at hOUT
  replace HES := Lib.hid (fun T N F X => HES.out H T N F X hH)
  have HHe := Lib.hid hHe
  have HO := Lib.hid hOUT
  have HLL := Lib.hid hll
  have SN := Lib.hid (fun p W (hW : Below w.heap.size w W) (hp : p ≤ n) hg => said_none w.heap.size b0 off n c l p W (HIN.out.below hW) hn9 hp hg)
  have SS := Lib.hid (fun p q t r W (hW : Below w.heap.size w W) (hp : p ≤ n) hg hq => said_some w.heap.size b0 off n c l p q t r W (HIN.out.below hW) hn9 hp hg hq)
  have GN := Lib.hid (fun p W (hW : Below w.heap.size w W) (hp : p ≤ n) hg => got1_none w.heap.size (some ⟨b0, off, none⟩) n c l p W (HIN.out.below hW) hn9 hp hg)
  have GS := Lib.hid (fun p m r W (hW : Below w.heap.size w W) (hp : p ≤ n) hg => got1_some w.heap.size (some ⟨b0, off, none⟩) n c l r p m W (HIN.out.below hW) hn9 hp hg)
  have GF := Lib.hid (fun p m q W (hW : Below w.heap.size w W) (hp : p + 4 ≤ n) hm hm2 hq => got4_some w.heap.size (some ⟨b0, off, none⟩) n c l p m q W (HIN.out.below hW) hn9 hp hm hm2 hq)
  clear hin hes hOUT hhead hm2 hm3 hm4 hm5 hm6 hm7 hm8 hH hHe LT h0 hb0 hv2 hv3 hv7 hv8 hll
  have S2 := NN
  have tok2 : True := trivial
  obtain ⟨W2, hW2⟩ : ∃ x, x = W1 := ⟨_, rfl⟩
  rw [← hW2] at S2 c0
  subst hW2
  clear NN
  go_enter Tryd.func8, Tryd.ntmps8
  go_wp2_with (first
    | (have _t := tok2; go_at_call 20; (with_reducible refine (G2.out _ S2.out.b).mono ?_); rintro e w2 ⟨rfl, rfl⟩; have c2 := S2.out.e.cell (j := 5) rfl; have f2 := S2.out.e.frozen (j := 5) (by simp [zeroE]); obtain ⟨W3, hW3⟩ : ∃ W, W2.setCell ⟨w.heap.size + 1, 5, none⟩ (.int .i64 m2) = W := ⟨_, rfl⟩; have S3 : Hid (DoE w.heap.size w W3 [.string ⟨#[]⟩, .slice none 0 0, .string ⟨#[]⟩, .string ⟨#[]⟩, .string ⟨#[]⟩, .int .i64 m2, .string ⟨#[]⟩, .int .i64 0, .slice none 0 0, .int .i64 0, .int .i64 0, .int .i64 0, .int .i64 0, .int .u32 0, .slice none 0 0]) := Lib.hid (by have h := S2.out.put (j := 5) (by simp [zeroE]) (.int .i64 m2); rw [hW3] at h; exact h); clear S2 G2; have tok3 : True := trivial)
    | (have _t := tok3; go_at_call 20; (with_reducible refine (G3.out _ S3.out.b).mono ?_); rintro e w3 ⟨rfl, rfl⟩; have c3 := S3.out.e.cell (j := 7) rfl; have f3 := S3.out.e.frozen (j := 7) (by simp); obtain ⟨W4, hW4⟩ : ∃ W, W3.setCell ⟨w.heap.size + 1, 7, none⟩ (.int .i64 m3) = W := ⟨_, rfl⟩; have S4 : Hid (DoE w.heap.size w W4 [.string ⟨#[]⟩, .slice none 0 0, .string ⟨#[]⟩, .string ⟨#[]⟩, .string ⟨#[]⟩, .int .i64 m2, .string ⟨#[]⟩, .int .i64 m3, .slice none 0 0, .int .i64 0, .int .i64 0, .int .i64 0, .int .i64 0, .int .u32 0, .slice none 0 0]) := Lib.hid (by have h := S3.out.put (j := 7) (by simp) (.int .i64 m3); rw [hW4] at h; exact h); clear S3 G3; have tok4 : True := trivial)
    | (have _t := tok4; go_at_call 20; (with_reducible refine (G4.out _ S4.out.b).mono ?_); rintro e w4 ⟨rfl, rfl⟩; have c4 := S4.out.e.cell (j := 9) rfl; have f4 := S4.out.e.frozen (j := 9) (by simp); obtain ⟨W5, hW5⟩ : ∃ W, W4.setCell ⟨w.heap.size + 1, 9, none⟩ (.int .i64 (i64 m4)) = W := ⟨_, rfl⟩; have S5 : Hid (DoE w.heap.size w W5 [.string ⟨#[]⟩, .slice none 0 0, .string ⟨#[]⟩, .string ⟨#[]⟩, .string ⟨#[]⟩, .int .i64 m2, .string ⟨#[]⟩, .int .i64 m3, .slice none 0 0, .int .i64 (i64 m4), .int .i64 0, .int .i64 0, .int .i64 0, .int .u32 0, .slice none 0 0]) := Lib.hid (by have h := S4.out.put (j := 9) (by simp) (.int .i64 (i64 m4)); rw [hW5] at h; exact h); clear S4 G4; have tok5 : True := trivial)
    | (have _t := tok5; go_at_call 20; (with_reducible refine (G5.out _ S5.out.b).mono ?_); rintro e w5 ⟨rfl, rfl⟩; have c5 := S5.out.e.cell (j := 10) rfl; have f5 := S5.out.e.frozen (j := 10) (by simp); obtain ⟨W6, hW6⟩ : ∃ W, W5.setCell ⟨w.heap.size + 1, 10, none⟩ (.int .i64 (i64 m5)) = W := ⟨_, rfl⟩; have S6 : Hid (DoE w.heap.size w W6 [.string ⟨#[]⟩, .slice none 0 0, .string ⟨#[]⟩, .string ⟨#[]⟩, .string ⟨#[]⟩, .int .i64 m2, .string ⟨#[]⟩, .int .i64 m3, .slice none 0 0, .int .i64 (i64 m4), .int .i64 (i64 m5), .int .i64 0, .int .i64 0, .int .u32 0, .slice none 0 0]) := Lib.hid (by have h := S5.out.put (j := 10) (by simp) (.int .i64 (i64 m5)); rw [hW6] at h; exact h); clear S5 G5; have tok6 : True := trivial)
    | (have _t := tok6; go_at_call 20; (with_reducible refine (G6.out _ S6.out.b).mono ?_); rintro e w6 ⟨rfl, rfl⟩; have c6 := S6.out.e.cell (j := 11) rfl; have f6 := S6.out.e.frozen (j := 11) (by simp); obtain ⟨W7, hW7⟩ : ∃ W, W6.setCell ⟨w.heap.size + 1, 11, none⟩ (.int .i64 (i64 m6)) = W := ⟨_, rfl⟩; have S7 : Hid (DoE w.heap.size w W7 [.string ⟨#[]⟩, .slice none 0 0, .string ⟨#[]⟩, .string ⟨#[]⟩, .string ⟨#[]⟩, .int .i64 m2, .string ⟨#[]⟩, .int .i64 m3, .slice none 0 0, .int .i64 (i64 m4), .int .i64 (i64 m5), .int .i64 (i64 m6), .int .i64 0, .int .u32 0, .slice none 0 0]) := Lib.hid (by have h := S6.out.put (j := 11) (by simp) (.int .i64 (i64 m6)); rw [hW7] at h; exact h); clear S6 G6; have tok7 : True := trivial)
    | (have _t := tok7; go_at_call 20; (with_reducible refine (G7.out _ S7.out.b).mono ?_); rintro e w7 ⟨rfl, rfl⟩; have c7 := S7.out.e.cell (j := 12) rfl; have f7 := S7.out.e.frozen (j := 12) (by simp); obtain ⟨W8, hW8⟩ : ∃ W, W7.setCell ⟨w.heap.size + 1, 12, none⟩ (.int .i64 m7) = W := ⟨_, rfl⟩; have S8 : Hid (DoE w.heap.size w W8 [.string ⟨#[]⟩, .slice none 0 0, .string ⟨#[]⟩, .string ⟨#[]⟩, .string ⟨#[]⟩, .int .i64 m2, .string ⟨#[]⟩, .int .i64 m3, .slice none 0 0, .int .i64 (i64 m4), .int .i64 (i64 m5), .int .i64 (i64 m6), .int .i64 m7, .int .u32 0, .slice none 0 0]) := Lib.hid (by have h := S7.out.put (j := 12) (by simp) (.int .i64 m7); rw [hW8] at h; exact h); clear S7 G7; have tok8 : True := trivial)
    | (have _t := tok8; go_at_call 20; (with_reducible refine (G8.out _ S8.out.b).mono ?_); rintro e w8 ⟨rfl, rfl⟩; have c8 := S8.out.e.cell (j := 13) rfl; have f8 := S8.out.e.frozen (j := 13) (by simp); obtain ⟨W9, hW9⟩ : ∃ W, W8.setCell ⟨w.heap.size + 1, 13, none⟩ (.int .u32 m8) = W := ⟨_, rfl⟩; have S9 : Hid (DoE w.heap.size w W9 [.string ⟨#[]⟩, .slice none 0 0, .string ⟨#[]⟩, .string ⟨#[]⟩, .string ⟨#[]⟩, .int .i64 m2, .string ⟨#[]⟩, .int .i64 m3, .slice none 0 0, .int .i64 (i64 m4), .int .i64 (i64 m5), .int .i64 (i64 m6), .int .i64 m7, .int .u32 m8, .slice none 0 0]) := Lib.hid (by have h := S8.out.put (j := 13) (by simp) (.int .u32 m8); rw [hW9] at h; exact h); clear S8 G8; have tok9 : True := trivial))
  clear c0 c2 f2 c3 f3 c4 f4 c5 f5 c6 f6 c7 f7 c8 f8
  go_loopw [7, 8, 9] (fun a v i wr => ∃ (k p : Nat) (L : List (List UInt8)), i = .int .i64 k ∧ k ≤ 3 ∧ a = .int .i64 p ∧ p ≤ n ∧ L.length = k ∧ getAll getT 3 (l.drop 36) = (getAll getT (3 - k) (l.drop p)).map (fun y => (L ++ y.1, y.2)) ∧ DoE w.heap.size w wr [.string ⟨#[]⟩, .slice none 0 0, .string ⟨#[]⟩, .string ⟨#[]⟩, .string ⟨#[]⟩, .int .i64 m2, .string ⟨#[]⟩, .int .i64 m3, .slice none 0 0, .int .i64 (i64 m4), .int .i64 (i64 m5), .int .i64 (i64 m6), .int .i64 m7, .int .u32 m8, .slice none 0 0] ∧ wr.ownsRow (w.heap.size + 2) 9 1 v k (strsV L)) (fun _ _ i _ => 3 - (intOf i).toNat)
  case atStart => exact ⟨0, 36, [], rfl, by omega, rfl, by omega, rfl, by simp, S9.out, World.ownsRow_nil _ _ _ _⟩
  case round =>
    obtain ⟨k, p, L, rfl, hk, rfl, hp, hL, hall, hdo, hown⟩ := hrel
    have HA := Lib.hid hall
    have HD := Lib.hid hdo
    have HW := Lib.hid hown
    have HL := Lib.hid hL
    clear hall hdo hown hL S9
    by_cases hlt : k < 3
    · have kI : (k : Int) < 3 := by omega
      cases hg : getT (l.drop p) with
      | none =>
        have SB := Lib.hid (SN.out p wr HD.out.b hp hg)
        have HN : Hid (OUT = none) := Lib.hid (by
          rw [← HO.out]
          unfold tailU
          rw [HA.out, all_stop hlt hg])
        clear hg
        go_wp2_with (first
          | (go_at_call 21; (with_reducible refine SB.out.mono ?_); rintro e w2 ⟨rfl, rfl⟩)
          | (refine wpList_store_row rfl 33 _ _ rfl w.heap.size _ zeroE zeroE rfl rfl HD.out.z rfl HZi.out HZ1.out ?_; intro wz hrz hoz; have RZ := Lib.hid hrz; have OZ := Lib.hid hoz; clear hrz hoz))
        exact bodyPost_ret (v := .tuple #[.agg zeroE.toArray, .bool false]) (results_cell_tmp Tryd.results8 _ wz ⟨w.heap.size, 0, none⟩ rfl (.agg zeroE.toArray) (.bool false) rfl (run_loadVar_mid wz w.heap.size 0 33 zeroE _ (rangeOf RZ.out) Tryd.underlying33 rfl HZi.out)) rfl ⟨.inl ⟨HN.out, rfl⟩, HD.out.b.trans (OZ.out.below (Below.refl w.heap.size wr) (Nat.le_refl _))⟩
      | some x =>
        obtain ⟨t, r⟩ := x
        obtain ⟨q, hq⟩ : ∃ q, p + 2 + t.length = q := ⟨_, rfl⟩
        obtain ⟨hr, hqn⟩ := getT_at (by have := HLL.out; omega) hg
        rw [hq] at hr hqn
        have HQ : q ≤ n := by have := HLL.out; omega
        have SB := Lib.hid (SS.out p q t r wr HD.out.b hp hg hq)
        have HM := Lib.hid ((HA.out).trans (all_step hlt hg))
        rw [hr] at HM
        obtain ⟨X, hX⟩ : ∃ S : ByteArray, (⟨t.toArray⟩ : ByteArray) = S := ⟨_, rfl⟩
        rw [hX] at SB
        have HX := Lib.hid hX
        clear hg hX hq hr hqn HA
        go_wp2_with (first
          | (go_at_call 21; (with_reducible refine SB.out.mono ?_); rintro e w2 ⟨rfl, rfl⟩)
          | (at_builtin; refine wpList_app str_ty rfl _ _ rfl (w.heap.size + 2) _ _ _ rfl HW.out 1 1 [.string X] rfl (by rfl) (one1 _ rfl) (by omega) (by simp only [maxLen]; omega) (by have := HD.out.e.lt; omega) ?_; intro v5 w5 hown5 hgr5; obtain ⟨A5, c5, rfl, _⟩ := own_slice hown5
             have E5 := Lib.hid (HD.out.mid ((Below.refl (w.heap.size + 2) wr).grown hgr5 (by have := HD.out.e.lt; omega) (fun g hg => (HW.out.lt g hg).1)))
             have O5 := Lib.hid hown5
             clear hown5 hgr5))
        go_roundw
        case rel => exact ⟨k + 1, q, L ++ [t], by go_num, by omega, rfl, HQ, by simp [HL.out], HM.out, E5.out, by rw [show strsV (L ++ [t]) = strsV L ++ [.string X] by rw [← HX.out]; simp [strsV]]; exact O5.out⟩
        case measure => simp only [intOf]; omega
    · obtain rfl : k = 3 := by omega
      have hh := HO.out
      unfold tailU at hh
      rw [HA.out, all_end] at hh
      simp only at hh
      have HT := Lib.hid (HA.out.trans all_end)
      have H9 := Lib.hid hh
      obtain ⟨s9, s10, s11, hLe⟩ : ∃ a b c, L = [a, b, c] := by
        have h := HL.out
        match L, h with
        | [a, b, c], _ => exact ⟨a, b, c, rfl⟩
      subst hLe
      have O1 := own_put HW.out ⟨w.heap.size + 1, 0, none⟩ (.string ⟨s9.toArray⟩) (by show w.heap.size + 1 < _; omega)
      have O2 := own_put O1 ⟨w.heap.size + 1, 2, none⟩ (.string ⟨s10.toArray⟩) (by show w.heap.size + 1 < _; omega)
      obtain ⟨bl, ol, cl, hv, hcl, hcell⟩ := own_cellsS HW.out (by omega)
      subst hv
      have q0 := hcell _ HW.out 0 s9 rfl
      have q1 := hcell _ O1 1 s10 rfl
      have q2 := hcell _ O2 2 s11 rfl
      rw [Nat.add_zero] at q0
      obtain ⟨X9, hX9⟩ : ∃ S : ByteArray, (⟨s9.toArray⟩ : ByteArray) = S := ⟨_, rfl⟩
      obtain ⟨X10, hX10⟩ : ∃ S : ByteArray, (⟨s10.toArray⟩ : ByteArray) = S := ⟨_, rfl⟩
      obtain ⟨X11, hX11⟩ : ∃ S : ByteArray, (⟨s11.toArray⟩ : ByteArray) = S := ⟨_, rfl⟩
      rw [hX9] at q0 q1 q2
      rw [hX10] at q1 q2
      rw [hX11] at q2
      have HX9 := Lib.hid hX9
      have HX10 := Lib.hid hX10
      have HX11 := Lib.hid hX11
      have e0 := HD.out.e.cell (j := 0) rfl
      have f0 := HD.out.e.frozen (j := 0) (by simp)
      obtain ⟨V1, hV1⟩ : ∃ W, wr.setCell ⟨w.heap.size + 1, 0, none⟩ (.string X9) = W := ⟨_, rfl⟩
      have D1 : DoE w.heap.size w V1 [.string X9, .slice none 0 0, .string ⟨#[]⟩, .string ⟨#[]⟩, .string ⟨#[]⟩, .int .i64 m2, .string ⟨#[]⟩, .int .i64 m3, .slice none 0 0, .int .i64 (i64 m4), .int .i64 (i64 m5), .int .i64 (i64 m6), .int .i64 m7, .int .u32 m8, .slice none 0 0] := by have h := HD.out.put (j := 0) (by simp) (.string X9); rw [hV1] at h; exact h
      have e1 := D1.e.cell (j := 2) rfl
      have f1 := D1.e.frozen (j := 2) (by simp)
      rw [hV1] at q1 q2
      obtain ⟨V2, hV2⟩ : ∃ W, V1.setCell ⟨w.heap.size + 1, 2, none⟩ (.string X10) = W := ⟨_, rfl⟩
      have D2 : DoE w.heap.size w V2 [.string X9, .slice none 0 0, .string X10, .string ⟨#[]⟩, .string ⟨#[]⟩, .int .i64 m2, .string ⟨#[]⟩, .int .i64 m3, .slice none 0 0, .int .i64 (i64 m4), .int .i64 (i64 m5), .int .i64 (i64 m6), .int .i64 m7, .int .u32 m8, .slice none 0 0] := by have h := D1.put (j := 2) (by simp) (.string X10); rw [hV2] at h; exact h
      have e2 := D2.e.cell (j := 6) rfl
      have f2 := D2.e.frozen (j := 6) (by simp)
      rw [hV2] at q2
      obtain ⟨V3, hV3⟩ : ∃ W, V2.setCell ⟨w.heap.size + 1, 6, none⟩ (.string X11) = W := ⟨_, rfl⟩
      have S12 : Hid (DoE w.heap.size w V3 [.string X9, .slice none 0 0, .string X10, .string ⟨#[]⟩, .string ⟨#[]⟩, .int .i64 m2, .string X11, .int .i64 m3, .slice none 0 0, .int .i64 (i64 m4), .int .i64 (i64 m5), .int .i64 (i64 m6), .int .i64 m7, .int .u32 m8, .slice none 0 0]) := Lib.hid (by have h := D2.put (j := 6) (by simp) (.string X11); rw [hV3] at h; exact h)
      have hc1 : 1 ≤ cl := by omega
      have hc2 : 2 ≤ cl := by omega
      clear D1 D2 O1 O2 hcell HA HD HW HL hh hX9 hX10 hX11 hlt
      cases hg : getN 1 (l.drop p) with
      | none =>
        have GB := Lib.hid (GN.out p V3 S12.out.b hp hg)
        have HN : Hid (OUT = none) := Lib.hid (by
          have h := H9.out
          unfold namesU at h
          rw [hg] at h
          exact h.symm)
        clear hg
        go_wp2_with (first
          | (go_at_call 20; (with_reducible refine GB.out.mono ?_); rintro e w2 ⟨rfl, rfl⟩)
          | (refine wpList_store_row rfl 33 _ _ rfl w.heap.size _ zeroE zeroE rfl rfl S12.out.z rfl HZi.out HZ1.out ?_; intro wz hrz hoz; have RZ := Lib.hid hrz; have OZ := Lib.hid hoz; clear hrz hoz))
        exact bodyPost_ret (v := .tuple #[.agg zeroE.toArray, .bool false]) (results_cell_tmp Tryd.results8 _ wz ⟨w.heap.size, 0, none⟩ rfl (.agg zeroE.toArray) (.bool false) rfl (run_loadVar_mid wz w.heap.size 0 33 zeroE _ (rangeOf RZ.out) Tryd.underlying33 rfl HZi.out)) rfl ⟨.inl ⟨HN.out, rfl⟩, S12.out.b.trans (OZ.out.below (Below.refl w.heap.size V3) (Nat.le_refl _))⟩
      | some x =>
        obtain ⟨m12, r⟩ := x
        obtain ⟨hr, hpn, hm12⟩ := getN1_at (by have := HLL.out; omega) hg
        subst hr
        have HP1 : p + 1 ≤ n := by have := HLL.out; omega
        have GB := Lib.hid (GS.out p m12 _ V3 S12.out.b hp hg)
        have hh := H9.out
        unfold namesU at hh
        rw [hg] at hh
        simp only at hh
        have H12 := Lib.hid hh
        have HG12 := Lib.hid hg
        have wp1 : IntKind.i64.wrap ((p : Int) + 1) = (p : Int) + 1 := IntWalk.i64_in _ ⟨by omega, by omega⟩
        clear hg hh hpn H9
        go_wp2_with (go_at_call 20; (with_reducible refine GB.out.mono ?_); rintro e w2 ⟨rfl, rfl⟩)
        clear e0 f0 e1 f1 e2 f2 q0 q1 q2 wp1 GB
        go_loopw [7, 15] (fun a i wr => ∃ (k p2 : Nat) (L : List (List UInt8)) (v : Value), i = .int .i64 k ∧ k ≤ m12 ∧ a = .int .i64 p2 ∧ p2 ≤ n ∧ L.length = k ∧ getAll getT m12 (l.drop (p + 1)) = (getAll getT (m12 - k) (l.drop p2)).map (fun y => (L ++ y.1, y.2)) ∧ DoE w.heap.size w wr [.string X9, v, .string X10, .string ⟨#[]⟩, .string ⟨#[]⟩, .int .i64 m2, .string X11, .int .i64 m3, .slice none 0 0, .int .i64 (i64 m4), .int .i64 (i64 m5), .int .i64 (i64 m6), .int .i64 m7, .int .u32 m8, .slice none 0 0] ∧ wr.ownsRow (w.heap.size + 2) 9 1 v k (strsV L)) (fun _ i _ => m12 - (intOf i).toNat)
        case atStart => exact ⟨0, p + 1, [], .slice none 0 0, rfl, by omega, by go_num, HP1, rfl, by simp, S12.out, World.ownsRow_nil _ _ _ _⟩
        case round =>
          obtain ⟨k, p2, L, v, rfl, hk, rfl, hp2, hL, hall, hdo, hown⟩ := hrel
          obtain ⟨wn, hwn⟩ : ∃ x : World, x = wr := ⟨_, rfl⟩
          subst hwn
          have HA := Lib.hid hall
          have HD := Lib.hid hdo
          have HW := Lib.hid hown
          have HL := Lib.hid hL
          have n1 := hdo.e.cell (j := 1) rfl
          clear hall hdo hown hL S12
          by_cases hlt : k < m12
          · have kI : (k : Int) < (m12 : Int) := by omega
            cases hg : getT (l.drop p2) with
            | none =>
              have SB := Lib.hid (SN.out p2 wn HD.out.b hp2 hg)
              have HN : Hid (OUT = none) := Lib.hid (by
                have h := H12.out
                rw [HA.out, all_stop hlt hg] at h
                exact h.symm)
              clear hg n1
              go_wp2_with (first
                | (go_at_call 21; (with_reducible refine SB.out.mono ?_); rintro e w2 ⟨rfl, rfl⟩)
                | (refine wpList_store_row rfl 33 _ _ rfl w.heap.size _ zeroE zeroE rfl rfl HD.out.z rfl HZi.out HZ1.out ?_; intro wz hrz hoz; have RZ := Lib.hid hrz; have OZ := Lib.hid hoz; clear hrz hoz))
              exact bodyPost_ret (v := .tuple #[.agg zeroE.toArray, .bool false]) (results_cell_tmp Tryd.results8 _ wz ⟨w.heap.size, 0, none⟩ rfl (.agg zeroE.toArray) (.bool false) rfl (run_loadVar_mid wz w.heap.size 0 33 zeroE _ (rangeOf RZ.out) Tryd.underlying33 rfl HZi.out)) rfl ⟨.inl ⟨HN.out, rfl⟩, HD.out.b.trans (OZ.out.below (Below.refl w.heap.size wn) (Nat.le_refl _))⟩
            | some x =>
              obtain ⟨t, r⟩ := x
              obtain ⟨q, hq⟩ : ∃ q, p2 + 2 + t.length = q := ⟨_, rfl⟩
              obtain ⟨hr, hqn⟩ := getT_at (by have := HLL.out; omega) hg
              rw [hq] at hr hqn
              have HQ : q ≤ n := by have := HLL.out; omega
              have SB := Lib.hid (SS.out p2 q t r wn HD.out.b hp2 hg hq)
              have HM := Lib.hid ((HA.out).trans (all_step hlt hg))
              rw [hr] at HM
              obtain ⟨X, hX⟩ : ∃ S : ByteArray, (⟨t.toArray⟩ : ByteArray) = S := ⟨_, rfl⟩
              rw [hX] at SB
              have HX := Lib.hid hX
              clear hg hX hq hr hqn HA
              go_wp2_with (first
                | (go_at_call 21; (with_reducible refine SB.out.mono ?_); rintro e w2 ⟨rfl, rfl⟩)
                | (at_builtin; refine wpList_app str_ty rfl _ _ rfl (w.heap.size + 2) _ _ _ rfl HW.out 1 1 [.string X] rfl (by rfl) (one1 _ rfl) (by omega) (by simp only [maxLen]; omega) (by have := HD.out.e.lt; omega) ?_; intro v5 w5 hown5 hgr5; obtain ⟨A5, c5, rfl, _⟩ := own_slice hown5
                   have E5 := Lib.hid (HD.out.mid ((Below.refl (w.heap.size + 2) wn).grown hgr5 (by have := HD.out.e.lt; omega) (fun g hg => (HW.out.lt g hg).1)))
                   have O5 := Lib.hid hown5
                   have z1 := E5.out.e.cell (j := 1) rfl
                   have zf1 := E5.out.e.frozen (j := 1) (by simp)
                   clear hown5 hgr5))
              go_roundw
              case rel => exact ⟨k + 1, q, L ++ [t], _, by go_num, by omega, rfl, HQ, by simp [HL.out], HM.out, E5.out.put (j := 1) (by simp) _, own_put (by rw [show strsV (L ++ [t]) = strsV L ++ [.string X] by rw [← HX.out]; simp [strsV]]; exact O5.out) _ _ (by show w.heap.size + 1 < _; omega)⟩
              case measure => simp only [intOf]; omega
          · obtain rfl : m12 = k := by omega
            have hh := H12.out
            rw [HA.out, all_end] at hh
            simp only at hh
            have HTN := Lib.hid (HA.out.trans all_end)
            have H13 := Lib.hid hh
            obtain ⟨LN, hLN⟩ : ∃ x, x = L := ⟨_, rfl⟩
            subst hLN
            have ON := HW
            have S13 := HD
            obtain ⟨vN, hvN⟩ : ∃ x, x = v := ⟨_, rfl⟩
            subst hvN
            clear HA hh H12 HD HW HL hlt n1
            cases hg : getN 1 (l.drop p2) with
            | none =>
              have GB := Lib.hid (GN.out p2 wn S13.out.b hp2 hg)
              have HN : Hid (OUT = none) := Lib.hid (by
                have h := H13.out
                unfold fieldsU at h
                rw [hg] at h
                exact h.symm)
              clear hg
              go_wp2_with (first
                | (go_at_call 20; (with_reducible refine GB.out.mono ?_); rintro e w2 ⟨rfl, rfl⟩)
                | (refine wpList_store_row rfl 33 _ _ rfl w.heap.size _ zeroE zeroE rfl rfl S13.out.z rfl HZi.out HZ1.out ?_; intro wz hrz hoz; have RZ := Lib.hid hrz; have OZ := Lib.hid hoz; clear hrz hoz))
              exact bodyPost_ret (v := .tuple #[.agg zeroE.toArray, .bool false]) (results_cell_tmp Tryd.results8 _ wz ⟨w.heap.size, 0, none⟩ rfl (.agg zeroE.toArray) (.bool false) rfl (run_loadVar_mid wz w.heap.size 0 33 zeroE _ (rangeOf RZ.out) Tryd.underlying33 rfl HZi.out)) rfl ⟨.inl ⟨HN.out, rfl⟩, S13.out.b.trans (OZ.out.below (Below.refl w.heap.size wn) (Nat.le_refl _))⟩
            | some x =>
              obtain ⟨m14, r⟩ := x
              obtain ⟨hr, hpn, hm14⟩ := getN1_at (by have := HLL.out; omega) hg
              subst hr
              have HP2 : p2 + 1 ≤ n := by have := HLL.out; omega
              have GB := Lib.hid (GS.out p2 m14 _ wn S13.out.b hp2 hg)
              have hh := H13.out
              unfold fieldsU at hh
              rw [hg] at hh
              simp only at hh
              have H14 := Lib.hid hh
              have HG14 := Lib.hid hg
              have wp1 : IntKind.i64.wrap ((p2 : Int) + 1) = (p2 : Int) + 1 := IntWalk.i64_in _ ⟨by omega, by omega⟩
              clear hg hh hpn H13
              go_wp2_with (go_at_call 20; (with_reducible refine GB.out.mono ?_); rintro e w2 ⟨rfl, rfl⟩)
              clear wp1 GB
              go_loopw [7, 19] (fun a i wr => ∃ (k p3 : Nat) (L : List Fld) (v : Value), i = .int .i64 k ∧ k ≤ m14 ∧ a = .int .i64 p3 ∧ p3 ≤ n ∧ L.length = k ∧ getAll getF m14 (l.drop (p2 + 1)) = (getAll getF (m14 - k) (l.drop p3)).map (fun y => (L ++ y.1, y.2)) ∧ DoE w.heap.size w wr [.string X9, vN, .string X10, .string ⟨#[]⟩, .string ⟨#[]⟩, .int .i64 m2, .string X11, .int .i64 m3, v, .int .i64 (i64 m4), .int .i64 (i64 m5), .int .i64 (i64 m6), .int .i64 m7, .int .u32 m8, .slice none 0 0] ∧ wr.ownsRow (w.heap.size + 2) 58 2 v k (fldsV L) ∧ KeepTy 9 wn wr) (fun _ i _ => m14 - (intOf i).toNat)
              case atStart => exact ⟨0, p2 + 1, [], .slice none 0 0, rfl, by omega, by go_num, HP2, rfl, by simp, S13.out, World.ownsRow_nil _ _ _ _, KeepTy.refl _ _⟩
              case round =>
                obtain ⟨k, p3, L, v, rfl, hk, rfl, hp3, hL, hall, hdo, hown, hkt⟩ := hrel
                obtain ⟨wf, hwf⟩ : ∃ x : World, x = wr := ⟨_, rfl⟩
                subst hwf
                have HA := Lib.hid hall
                have HD := Lib.hid hdo
                have HW := Lib.hid hown
                have HL := Lib.hid hL
                have HK := Lib.hid hkt
                have n1 := hdo.e.cell (j := 8) rfl
                clear hall hdo hown hL hkt S13
                by_cases hlt : k < m14
                · have kI : (k : Int) < (m14 : Int) := by omega
                  cases hg : getT (l.drop p3) with
                  | none =>
                    have SB := Lib.hid (SN.out p3 wf HD.out.b hp3 hg)
                    have HN : Hid (OUT = none) := Lib.hid (by
                      have h := H14.out
                      rw [HA.out, all_stop hlt (by unfold getF; rw [hg])] at h
                      exact h.symm)
                    clear hg n1
                    go_wp2_with (first
                      | (go_at_call 21; (with_reducible refine SB.out.mono ?_); rintro e w2 ⟨rfl, rfl⟩)
                      | (refine wpList_store_row rfl 33 _ _ rfl w.heap.size _ zeroE zeroE rfl rfl HD.out.z rfl HZi.out HZ1.out ?_; intro wz hrz hoz; have RZ := Lib.hid hrz; have OZ := Lib.hid hoz; clear hrz hoz))
                    exact bodyPost_ret (v := .tuple #[.agg zeroE.toArray, .bool false]) (results_cell_tmp Tryd.results8 _ wz ⟨w.heap.size, 0, none⟩ rfl (.agg zeroE.toArray) (.bool false) rfl (run_loadVar_mid wz w.heap.size 0 33 zeroE _ (rangeOf RZ.out) Tryd.underlying33 rfl HZi.out)) rfl ⟨.inl ⟨HN.out, rfl⟩, HD.out.b.trans (OZ.out.below (Below.refl w.heap.size wf) (Nat.le_refl _))⟩
                  | some x =>
                    obtain ⟨t, r⟩ := x
                    obtain ⟨q, hq⟩ : ∃ q, p3 + 2 + t.length = q := ⟨_, rfl⟩
                    obtain ⟨hr, hqn⟩ := getT_at (by have := HLL.out; omega) hg
                    rw [hq] at hr hqn
                    subst hr
                    have HQ : q ≤ n := by have := HLL.out; omega
                    have SB := Lib.hid (SS.out p3 q t _ wf HD.out.b hp3 hg hq)
                    obtain ⟨X, hX⟩ : ∃ S : ByteArray, (⟨t.toArray⟩ : ByteArray) = S := ⟨_, rfl⟩
                    rw [hX] at SB
                    have HX := Lib.hid hX
                    have HG := Lib.hid hg
                    clear hg hX hq hqn
                    cases hg2 : getT (l.drop q) with
                    | none =>
                      have SB2 := Lib.hid (SN.out q wf HD.out.b HQ hg2)
                      have HN : Hid (OUT = none) := Lib.hid (by
                        have h := H14.out
                        rw [HA.out, all_stop hlt (by unfold getF; rw [HG.out]; simp only; rw [hg2]; rfl)] at h
                        exact h.symm)
                      clear hg2 n1
                      have tok1 : True := trivial
                      go_wp2_with (first
                        | (have _t := tok1; go_at_call 21; (with_reducible refine SB.out.mono ?_); rintro e w2 ⟨rfl, rfl⟩; clear tok1; have tok2 : True := trivial)
                        | (have _t := tok2; go_at_call 21; (with_reducible refine SB2.out.mono ?_); rintro e w2 ⟨rfl, rfl⟩)
                        | (refine wpList_store_row rfl 33 _ _ rfl w.heap.size _ zeroE zeroE rfl rfl HD.out.z rfl HZi.out HZ1.out ?_; intro wz hrz hoz; have RZ := Lib.hid hrz; have OZ := Lib.hid hoz; clear hrz hoz))
                      exact bodyPost_ret (v := .tuple #[.agg zeroE.toArray, .bool false]) (results_cell_tmp Tryd.results8 _ wz ⟨w.heap.size, 0, none⟩ rfl (.agg zeroE.toArray) (.bool false) rfl (run_loadVar_mid wz w.heap.size 0 33 zeroE _ (rangeOf RZ.out) Tryd.underlying33 rfl HZi.out)) rfl ⟨.inl ⟨HN.out, rfl⟩, HD.out.b.trans (OZ.out.below (Below.refl w.heap.size wf) (Nat.le_refl _))⟩
                    | some y =>
                      obtain ⟨u, r2⟩ := y
                      obtain ⟨q2, hq2⟩ : ∃ x, q + 2 + u.length = x := ⟨_, rfl⟩
                      obtain ⟨hr2, hqn2⟩ := getT_at (by have := HLL.out; omega) hg2
                      rw [hq2] at hr2 hqn2
                      subst hr2
                      have HQ2 : q2 ≤ n := by have := HLL.out; omega
                      have SB2 := Lib.hid (SS.out q q2 u _ wf HD.out.b HQ hg2 hq2)
                      obtain ⟨Y, hY⟩ : ∃ S : ByteArray, (⟨u.toArray⟩ : ByteArray) = S := ⟨_, rfl⟩
                      rw [hY] at SB2
                      have HY := Lib.hid hY
                      have HM := Lib.hid ((HA.out).trans (all_step (x := (t, u)) (r := l.drop q2) hlt (by unfold getF; rw [HG.out]; simp only; rw [hg2]; rfl)))
                      clear hg2 hY hq2 hqn2 HA HG
                      have tok1 : True := trivial
                      go_wp2_with (first
                        | (have _t := tok1; go_at_call 21; (with_reducible refine SB.out.mono ?_); rintro e w2 ⟨rfl, rfl⟩; clear tok1; have tok2 : True := trivial)
                        | (have _t := tok2; go_at_call 21; (with_reducible refine SB2.out.mono ?_); rintro e w2 ⟨rfl, rfl⟩; clear tok2)
                        | (at_builtin; refine wpList_app fld_ty rfl _ _ rfl (w.heap.size + 2) _ _ _ rfl HW.out 1 1 [.string X, .string Y] rfl (by rfl) (fldsV_one [(t, u)] |> fun h => by rw [show fldsV [(t, u)] = [.string X, .string Y] by rw [← HX.out, ← HY.out]; rfl] at h; exact h) (by omega) (by simp only [maxLen]; omega) (by have := HD.out.e.lt; omega) ?_; intro v5 w5 hown5 hgr5; obtain ⟨A5, c5, rfl, _⟩ := own_slice hown5
                           have E5 := Lib.hid (HD.out.mid ((Below.refl (w.heap.size + 2) wf).grown hgr5 (by have := HD.out.e.lt; omega) (fun g hg => (HW.out.lt g hg).1)))
                           have O5 := Lib.hid hown5
                           have K5 := Lib.hid (HK.out.trans (KeepTy.grown HW.out hgr5 (by decide)))
                           have z1 := E5.out.e.cell (j := 8) rfl
                           have zf1 := E5.out.e.frozen (j := 8) (by simp)
                           clear hown5 hgr5))
                      go_roundw
                      case rel => exact ⟨k + 1, q2, L ++ [(t, u)], _, by go_num, by omega, rfl, HQ2, by simp [HL.out], HM.out, E5.out.put (j := 8) (by simp) _, own_put (by rw [show fldsV (L ++ [(t, u)]) = fldsV L ++ [.string X, .string Y] by rw [← HX.out, ← HY.out, fldsV_append]; rfl]; exact O5.out) _ _ (by show w.heap.size + 1 < _; omega), K5.out.trans (KeepTy.put (o := 8) E5.out.e (by decide) _)⟩
                      case measure => simp only [intOf]; omega
                · obtain rfl : m14 = k := by omega
                  have hh := H14.out
                  rw [HA.out, all_end] at hh
                  simp only at hh
                  have HTF := Lib.hid (HA.out.trans all_end)
                  have H15 := Lib.hid hh
                  obtain ⟨LF, hLF⟩ : ∃ x, x = L := ⟨_, rfl⟩
                  subst hLF
                  have OF := HW
                  have ON15 := Lib.hid (own_keepTy ON.out HK.out)
                  have S15 := HD
                  obtain ⟨vF, hvF⟩ : ∃ x, x = v := ⟨_, rfl⟩
                  subst hvF
                  clear HA hh H14 HD HW HL HK hlt n1 ON
                  cases hg : getN 1 (l.drop p3) with
                  | none =>
                    have GB := Lib.hid (GN.out p3 wf S15.out.b hp3 hg)
                    have HN : Hid (OUT = none) := Lib.hid (by
                      have h := H15.out
                      unfold bodyU at h
                      rw [hg] at h
                      exact h.symm)
                    clear hg
                    go_wp2_with (first
                      | (go_at_call 20; (with_reducible refine GB.out.mono ?_); rintro e w2 ⟨rfl, rfl⟩)
                      | (refine wpList_store_row rfl 33 _ _ rfl w.heap.size _ zeroE zeroE rfl rfl S15.out.z rfl HZi.out HZ1.out ?_; intro wz hrz hoz; have RZ := Lib.hid hrz; have OZ := Lib.hid hoz; clear hrz hoz))
                    exact bodyPost_ret (v := .tuple #[.agg zeroE.toArray, .bool false]) (results_cell_tmp Tryd.results8 _ wz ⟨w.heap.size, 0, none⟩ rfl (.agg zeroE.toArray) (.bool false) rfl (run_loadVar_mid wz w.heap.size 0 33 zeroE _ (rangeOf RZ.out) Tryd.underlying33 rfl HZi.out)) rfl ⟨.inl ⟨HN.out, rfl⟩, S15.out.b.trans (OZ.out.below (Below.refl w.heap.size wf) (Nat.le_refl _))⟩
                  | some x =>
                    obtain ⟨m16, r⟩ := x
                    obtain ⟨hr, hpn, hm16⟩ := getN1_at (by have := HLL.out; omega) hg
                    subst hr
                    have HP3 : p3 + 1 ≤ n := by have := HLL.out; omega
                    have GB := Lib.hid (GS.out p3 m16 _ wf S15.out.b hp3 hg)
                    have hh := H15.out
                    unfold bodyU at hh
                    rw [hg] at hh
                    simp only at hh
                    have HG16 := Lib.hid hg
                    have wp1 : IntKind.i64.wrap ((p3 : Int) + 1) = (p3 : Int) + 1 := IntWalk.i64_in _ ⟨by omega, by omega⟩
                    have wp2 : IntKind.i64.wrap (8 * (m16 : Int)) = 8 * (m16 : Int) := IntWalk.i64_in _ ⟨by omega, by omega⟩
                    have wp3 : IntKind.i64.wrap ((p3 : Int) + 1 + 8 * (m16 : Int)) = (p3 : Int) + 1 + 8 * (m16 : Int) := IntWalk.i64_in _ ⟨by omega, by omega⟩
                    clear hg hpn H15
                    by_cases h8n : p3 + 1 + 8 * m16 = n
                    · have t1 : ((p3 : Int) + 1 + 8 * (m16 : Int) == (n : Int)) = true := by rw [beq_iff_eq]; omega
                      have t2 : ((p3 : Int) + 1 + 8 * (m16 : Int) != (n : Int)) = false := by rw [bne, t1]; rfl
                      rw [if_neg (by rw [List.length_drop]; have := HLL.out; omega)] at hh
                      have H16 := Lib.hid hh
                      clear hh
                      go_wp2_with (go_at_call 20; (with_reducible refine GB.out.mono ?_); rintro e w2 ⟨rfl, rfl⟩)
                      clear wp1 wp2 wp3 GB t1 t2
                      go_loopw [25] (fun i wr => ∃ (k : Nat) (L : List (Int × Int)) (v : Value), i = .int .i64 k ∧ k ≤ m16 ∧ L.length = k ∧ getAll getX m16 (l.drop (p3 + 1)) = (getAll getX (m16 - k) (l.drop (p3 + 1 + 8 * k))).map (fun y => (L ++ y.1, y.2)) ∧ DoE w.heap.size w wr [.string X9, vN, .string X10, .string ⟨#[]⟩, .string ⟨#[]⟩, .int .i64 m2, .string X11, .int .i64 m3, vF, .int .i64 (i64 m4), .int .i64 (i64 m5), .int .i64 (i64 m6), .int .i64 m7, .int .u32 m8, v] ∧ wr.ownsRow (w.heap.size + 2) 60 2 v k (extsV L) ∧ KeepTy 9 wf wr ∧ KeepTy 58 wf wr) (fun i _ => m16 - (intOf i).toNat)
                      case atStart => exact ⟨0, [], .slice none 0 0, rfl, by omega, rfl, by simp, S15.out, World.ownsRow_nil _ _ _ _, KeepTy.refl _ _, KeepTy.refl _ _⟩
                      case round =>
                        obtain ⟨k, L, v, rfl, hk, hL, hall, hdo, hown, hkt, hkf⟩ := hrel
                        have HA := Lib.hid hall
                        have HD := Lib.hid hdo
                        have HW := Lib.hid hown
                        have HL := Lib.hid hL
                        have HK := Lib.hid hkt
                        have HF := Lib.hid hkf
                        have n1 := hdo.e.cell (j := 14) rfl
                        clear hall hdo hown hL hkt hkf S15
                        by_cases hlt : k < m16
                        · have kI : (k : Int) < (m16 : Int) := by omega
                          obtain ⟨pa, hpa⟩ : ∃ x, p3 + 1 + 8 * k = x := ⟨_, rfl⟩
                          obtain ⟨xa, hxa⟩ : ∃ m, valB ((l.drop pa).take 4) = m := ⟨_, rfl⟩
                          obtain ⟨ya, hya⟩ : ∃ m, valB ((l.drop (pa + 4)).take 4) = m := ⟨_, rfl⟩
                          have hln := HLL.out
                          have hx4 : xa < 4294967296 := by have h := valB_lt ((l.drop pa).take 4); rw [List.length_take, List.length_drop, show min 4 (l.length - pa) = 4 by omega, hxa] at h; exact h
                          have hy4 : ya < 4294967296 := by have h := valB_lt ((l.drop (pa + 4)).take 4); rw [List.length_take, List.length_drop, show min 4 (l.length - (pa + 4)) = 4 by omega, hya] at h; exact h
                          have hgx : getX (l.drop pa) = some (((xa : Int), (ya : Int)), l.drop (pa + 8)) := by
                            unfold getX
                            rw [getN_at (by omega), if_neg (by omega)]
                            simp only
                            rw [getN_at (by omega), if_neg (by omega), hxa, hya]
                            rfl
                          have HM := HA.out
                          rw [hpa] at HM
                          have HM2 := Lib.hid (HM.trans (all_step hlt hgx))
                          have w1 : IntKind.i64.wrap ((p3 : Int) + 1) = (p3 : Int) + 1 := IntWalk.i64_in _ ⟨by omega, by omega⟩
                          have w2 : IntKind.i64.wrap (8 * (k : Int)) = 8 * (k : Int) := IntWalk.i64_in _ ⟨by omega, by omega⟩
                          have w3 : IntKind.i64.wrap ((p3 : Int) + 1 + 8 * (k : Int)) = (p3 : Int) + 1 + 8 * (k : Int) := IntWalk.i64_in _ ⟨by omega, by omega⟩
                          have w4 : IntKind.i64.wrap ((p3 : Int) + 5) = (p3 : Int) + 5 := IntWalk.i64_in _ ⟨by omega, by omega⟩
                          have w5 : IntKind.i64.wrap ((p3 : Int) + 5 + 8 * (k : Int)) = (p3 : Int) + 5 + 8 * (k : Int) := IntWalk.i64_in _ ⟨by omega, by omega⟩
                          have GX := Lib.hid (GF.out pa xa ((p3 : Int) + 1 + 8 * (k : Int)) wr HD.out.b (by omega) hxa hx4 (by omega))
                          have GY := Lib.hid (GF.out (pa + 4) ya ((p3 : Int) + 5 + 8 * (k : Int)) wr HD.out.b (by omega) hya hy4 (by omega))
                          have HPA := Lib.hid hpa
                          clear hgx hxa hya HM HA hln hpa
                          have tok1 : True := trivial
                          go_wp2_with (first
                            | (have _t := tok1; go_at_call 20; (with_reducible refine GX.out.mono ?_); rintro e w2 ⟨rfl, rfl⟩; clear tok1; have tok2 : True := trivial)
                            | (have _t := tok2; go_at_call 20; (with_reducible refine GY.out.mono ?_); rintro e w2 ⟨rfl, rfl⟩; clear tok2)
                            | (at_builtin; refine wpList_app ext_ty rfl _ _ rfl (w.heap.size + 2) _ _ _ rfl HW.out 1 1 [.int .i64 xa, .int .i64 ya] rfl (by rfl) (extsV_one [((xa : Int), (ya : Int))]) (by omega) (by simp only [maxLen]; omega) (by have := HD.out.e.lt; omega) ?_; intro v5 w5 hown5 hgr5; obtain ⟨A5, c5, rfl, _⟩ := own_slice hown5
                               have E5 := Lib.hid (HD.out.mid ((Below.refl (w.heap.size + 2) wr).grown hgr5 (by have := HD.out.e.lt; omega) (fun g hg => (HW.out.lt g hg).1)))
                               have O5 := Lib.hid hown5
                               have K5 := Lib.hid (HK.out.trans (KeepTy.grown HW.out hgr5 (by decide)))
                               have J5 := Lib.hid (HF.out.trans (KeepTy.grown HW.out hgr5 (by decide)))
                               have z1 := E5.out.e.cell (j := 14) rfl
                               have zf1 := E5.out.e.frozen (j := 14) (by simp)
                               clear hown5 hgr5))
                          go_roundw
                          case rel => exact ⟨k + 1, L ++ [((xa : Int), (ya : Int))], _, by go_num, by omega, by simp [HL.out], by have h := HM2.out; rw [show pa + 8 = p3 + 1 + 8 * (k + 1) by have := HPA.out; omega] at h; exact h, E5.out.put (j := 14) (by simp) _, own_put (by rw [extsV_append]; exact O5.out) _ _ (by show w.heap.size + 1 < _; omega), K5.out.trans (KeepTy.put (o := 14) E5.out.e (by decide) _), J5.out.trans (KeepTy.put (o := 14) E5.out.e (by decide) _)⟩
                          case measure => simp only [intOf]; omega
                        · obtain rfl : m16 = k := by omega
                          have HTX := HA.out.trans all_end
                          have hh := H16.out
                          rw [HTX] at hh
                          simp only at hh
                          have ON := own_keepTy ON15.out HK.out
                          have OFF := own_keepTy OF.out HF.out
                          obtain ⟨A1, c1, hva, SLN⟩ := own_slice ON
                          obtain ⟨A2, c2, hvb, SLF⟩ := own_slice OFF
                          obtain ⟨A3, c3, hv, SLX⟩ := own_slice HW.out
                          subst hva hvb hv
                          obtain ⟨E, hE⟩ : ∃ e, mkE H [s9, s10, s11] LN LF L = e := ⟨_, rfl⟩
                          obtain ⟨pp, hpp⟩ : ∃ p : EntA, p = ⟨A1, m12, c1, A2, m14, c2, A3, m16, c3⟩ := ⟨_, rfl⟩
                          have hin : EntIn wr wr.heap.size E pp := by rw [← hE, hpp]; exact ⟨SLN, SLF, SLX⟩
                          have hCSe : entC E pp = [.string X9, .slice A1 m12 c1, .string X10, .string ⟨#[]⟩, .string ⟨#[]⟩, .int .i64 m2, .string X11, .int .i64 m3, .slice A2 m14 c2, .int .i64 (i64 m4), .int .i64 (i64 m5), .int .i64 (i64 m6), .int .i64 m7, .int .u32 m8, .slice A3 m16 c3] := by
                            rw [← hE, hpp, HHe.out, ← HX9.out, ← HX10.out, ← HX11.out]
                            rfl
                          have hes := HES.out [s9, s10, s11] LN LF L ⟨_, HT.out, by
                            have hrest : l.drop (p3 + 1 + 8 * m16) = [] := List.drop_eq_nil_of_le (by have := HLL.out; omega)
                            rw [hrest] at HTX
                            unfold restR
                            rw [HG12.out]
                            simp only
                            rw [HTN.out]
                            simp only
                            rw [HG14.out]
                            simp only
                            rw [HTF.out]
                            simp only
                            rw [HG16.out]
                            simp only
                            rw [HTX]⟩
                          rw [hE] at hes hh
                          have RT := rright19_any E pp wr hin (hes wr pp hin)
                          obtain ⟨C, hC⟩ : ∃ C, entC E pp = C := ⟨_, rfl⟩
                          rw [hC] at RT hCSe
                          rw [← hCSe] at HD
                          have HCl : Hid ((Tryd.prog.info? 33).map (·.size) = some C.length) := Lib.hid (by rw [hCSe]; kernel_rfl)
                          have HCl2 : Hid (C.length = 15) := Lib.hid (by rw [hCSe]; rfl)
                          have HC1 : Hid (∀ v ∈ C, v.oneCell' = true) := Lib.hid (by rw [hCSe]; simp [Value.oneCell'])
                          have HC := Lib.hid hC
                          have HEO : Hid (EntO (w.heap.size + 2) wr E pp) := Lib.hid (by rw [← hE, hpp]; exact ⟨ON, OFF, HW.out⟩)
                          replace RT := Lib.hid RT
                          clear hes hC hCSe hin ON OFF SLN SLF SLX HTX HA H16 hE hpp HW HL HK HF hlt n1 ON15 OF
                          cases hr : rightE E with
                          | false =>
                            rw [hr] at RT hh
                            have HN : Hid (OUT = none) := Lib.hid (by rw [← hh]; rfl)
                            clear hh hr
                            go_wp2_with (first
                              | (refine wpList_load_g (wanted_un rfl) 33 _ rfl (w.heap.size + 1) 0 rfl C _ (rangeOf HD.out.e) Tryd.underlying33 rfl HCl.out ?_)
                              | (go_at_call 12; (with_reducible refine RT.out.mono ?_); rintro e w2 ⟨rfl, hb2⟩; have ZR := Lib.hid (HD.out.z.below hb2 HD.out.z.lt); have BB := Lib.hid (HD.out.b.trans (hb2.mono (by have := HD.out.z.lt; omega))); clear hb2)
                              | (refine wpList_store_row rfl 33 _ _ rfl w.heap.size _ zeroE zeroE rfl rfl ZR.out rfl HZi.out HZ1.out ?_; intro wz hrz hoz; have RZ := Lib.hid hrz; have OZ := Lib.hid hoz; clear hrz hoz))
                            exact bodyPost_ret (v := .tuple #[.agg zeroE.toArray, .bool false]) (results_cell_tmp Tryd.results8 _ wz ⟨w.heap.size, 0, none⟩ rfl (.agg zeroE.toArray) (.bool false) rfl (run_loadVar_mid wz w.heap.size 0 33 zeroE _ (rangeOf RZ.out) Tryd.underlying33 rfl HZi.out)) rfl ⟨.inl ⟨HN.out, rfl⟩, BB.out.trans (OZ.out.below (Below.refl w.heap.size w2) (Nat.le_refl _))⟩
                          | true =>
                            rw [hr] at RT hh
                            have HS : Hid (OUT = some E) := Lib.hid (by rw [← hh]; rfl)
                            clear hh hr
                            go_wp2_with (first
                              | (have _t := RT; refine wpList_load_g (wanted_un rfl) 33 _ rfl (w.heap.size + 1) 0 rfl C _ (rangeOf HD.out.e) Tryd.underlying33 rfl HCl.out ?_)
                              | (go_at_call 12; (with_reducible refine RT.out.mono ?_); rintro e w2 ⟨rfl, hb2⟩; have ER := Lib.hid (HD.out.e.below hb2 HD.out.e.lt); have EO2 := Lib.hid (HEO.out.below hb2); have ZR := Lib.hid (HD.out.z.below hb2 HD.out.z.lt); have ZL := Lib.hid HD.out.z.lt; have BB := Lib.hid (HD.out.b.trans (hb2.mono (by have := HD.out.z.lt; omega))); clear hb2 RT)
                              | (refine wpList_load_g (wanted_un rfl) 33 _ rfl (w.heap.size + 1) 0 rfl C _ (rangeOf ER.out) Tryd.underlying33 rfl HCl.out ?_)
                              | (refine wpList_store_row rfl 33 _ _ rfl w.heap.size _ C zeroE rfl rfl ZR.out (by rw [HCl2.out]; rfl) HCl.out HC1.out ?_; intro wz hrz hoz; have RZ := Lib.hid hrz; have OZ := Lib.hid hoz; clear hrz hoz))
                            exact bodyPost_ret (v := .tuple #[.agg C.toArray, .bool true]) (results_cell_tmp Tryd.results8 _ wz ⟨w.heap.size, 0, none⟩ rfl (.agg C.toArray) (.bool true) rfl (run_loadVar_mid wz w.heap.size 0 33 C _ (rangeOf RZ.out) Tryd.underlying33 rfl HCl.out)) rfl ⟨.inr ⟨E, pp, HS.out, by rw [HC.out], (EO2.out.only OZ.out (by omega)).ent⟩, BB.out.trans (OZ.out.below (Below.refl w.heap.size w2) (Nat.le_refl _))⟩
                    · have t1 : ((p3 : Int) + 1 + 8 * (m16 : Int) == (n : Int)) = false := by rw [beq_eq_false_iff_ne]; omega
                      have t2 : ((p3 : Int) + 1 + 8 * (m16 : Int) != (n : Int)) = true := by rw [bne, t1]; rfl
                      rw [if_pos (by rw [List.length_drop]; have := HLL.out; omega)] at hh
                      have HN : Hid (OUT = none) := Lib.hid hh.symm
                      clear hh
                      go_wp2_with (first
                        | (go_at_call 20; (with_reducible refine GB.out.mono ?_); rintro e w2 ⟨rfl, rfl⟩)
                        | (refine wpList_store_row rfl 33 _ _ rfl w.heap.size _ zeroE zeroE rfl rfl S15.out.z rfl HZi.out HZ1.out ?_; intro wz hrz hoz; have RZ := Lib.hid hrz; have OZ := Lib.hid hoz; clear hrz hoz))
                      exact bodyPost_ret (v := .tuple #[.agg zeroE.toArray, .bool false]) (results_cell_tmp Tryd.results8 _ wz ⟨w.heap.size, 0, none⟩ rfl (.agg zeroE.toArray) (.bool false) rfl (run_loadVar_mid wz w.heap.size 0 33 zeroE _ (rangeOf RZ.out) Tryd.underlying33 rfl HZi.out)) rfl ⟨.inl ⟨HN.out, rfl⟩, S15.out.b.trans (OZ.out.below (Below.refl w.heap.size wf) (Nat.le_refl _))⟩
end Go.Proofs.YtkodeeneljkgeaaDoor
