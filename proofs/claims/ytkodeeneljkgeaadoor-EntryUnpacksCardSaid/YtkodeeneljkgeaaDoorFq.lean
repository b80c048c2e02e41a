/- Fq: several texts, one behind the other. -/
import Derived.Test.YtkodeeneljkgeaaDoorFie1
import Derived.Test.YtkodeeneljkgeaaDoorFie2
import Derived.Test.YtkodeeneljkgeaaDoorOct5
import Derived.Laws.StructEq
import Derived.Laws.Cover3
import Derived.Test.YtkodeeneljkgeaaDoorClear
import Derived.Test.YtkodeeneljkgeaaDoorKt
import Derived.Deep.CutRange
import Derived.Test.YtkodeeneljkgeaaDoorShape
import Derived.Lib.SlBytesConst
import Derived.Lib.Bytes
import Derived.IntWalk
import Derived.Test.YtkodeeneljkgeaaDoorFie3
/- Walks of layer 3: what fields have of a name, by the code's way and the document's. Condition: at most 10^6 fields, texts within 10^9 octets. -/
namespace Go.Proofs.YtkodeeneljkgeaaDoor
open Go.RowKit IH
set_option maxRecDepth 100000
theorem getL_snoc (L : List Fld) (s : List UInt8) (k : Nat) (f : Fld) (hk : L[k]? = some f) : getL (L.take (k + 1)) s = getL (L.take k) s ++ if isN f s = true then [f.2] else [] := by
  unfold getL
  rw [List.take_add_one, hk, List.filter_append, List.map_append]
  cases h : isN f s <;> simp [h]
end Go.Proofs.YtkodeeneljkgeaaDoor

/- Walks of layer 3: the document's answer on a name's values, on fields without a name, on two lists; a name's only value. Condition: at most 10^6 fields, texts within 10^9 octets. -/
namespace Go.Proofs.YtkodeeneljkgeaaDoor
open Go.RowKit IH
set_option maxRecDepth 100000
theorem withoutL_snoc (L : List Fld) (s : List UInt8) (k : Nat) (f : Fld) (hk : L[k]? = some f) : withoutL (L.take (k + 1)) [s] = withoutL (L.take k) [s] ++ if isN f s = true then [] else [f] := by
  rw [without_one, without_one, List.take_add_one, hk, List.filter_append]
  cases h : isN f s <;> simp [h]
theorem lower1_any {P : Program} {fn : FuncId} (H : ∀ s : ByteArray, s.size ≤ 1000000000 → ∀ w, Calls P fn #[.string s] w fun e w' => e = .returned (.string ⟨(lower s.data.toList).toArray⟩) ∧ Below w.heap.size w w') (l : List UInt8) (hl : l.length ≤ 1000000000) (w : World) :
    Calls P fn #[.string ⟨l.toArray⟩] w fun e w' => e = .returned (.string ⟨(lower l).toArray⟩) ∧ Below w.heap.size w w' := H ⟨l.toArray⟩ (by rw [size_mk]; exact hl) w
theorem isN_beq (f : Fld) (s : List UInt8) : isN f s = ((⟨(lower f.1).toArray⟩ : ByteArray).toList == (⟨(lower s).toArray⟩ : ByteArray).toList) := by
  rw [ByteArray.toList_eq, ByteArray.toList_eq]; rfl
theorem fld_neq (X Y : ByteArray) (w : World) : (binOp .neq 58 (.agg #[.string X, .string Y]) (.agg #[.string X, .string Y])).run Tryd.prog w = .ok (.bool false) w := by
  have u2 := Tryd.underlying9
  have hS : Program.underlying Tryd.prog 58 = some (.struct (Program.fieldsOf Tryd.prog 58)) := by kernel_rfl
  have hp : Program.stoodInHeld Tryd.prog 58 = false := by kernel_rfl
  rw [run_neq_struct, show (10000 : Nat) = 9999 + 1 from rfl, run_equalIn_agg w 9999 58 _ _ hS hp]
  simp only [Program.fieldsOf, Tryd.underlying58]
  go_simp
  try simp
set_option maxHeartbeats 4000000 in
/-- Of two lists that are one. -/
theorem refSame3_any (A : Option Addr) (n c : Nat) (A' : Option Addr) (n' c' : Nat) (L : List Fld) (w : World) (hin : SliceIn w w.heap.size 2 A n c (fldsV L)) (hin' : SliceIn w w.heap.size 2 A' n' c' (fldsV L)) (hs : n ≤ 1000000) :
    Calls Tryd.prog 23 #[.slice A n c, .slice A' n' c'] w fun e w' => e = .returned (.bool true) ∧ Below w.heap.size w w' := by
  have hL := fld_count hin
  have hL' := fld_count hin'
  obtain rfl : n = n' := by omega
  clear hL'
  go_enter Tryd.func23, Tryd.ntmps23
  go_wp2
  go_loopw [5] (fun i wr => ∃ k : Nat, k ≤ n ∧ i = .int .i64 k ∧ Below w.heap.size w wr) (fun i _ => n - (intOf i).toNat)
  case atStart => exact ⟨0, by omega, rfl, Below.refl _ _⟩
  case round =>
    obtain ⟨k, hk, rfl, hbel⟩ := hrel
    by_cases hlt : k < n
    · obtain ⟨f, hf⟩ : ∃ f, L[k]? = some f := ⟨_, List.getElem?_eq_getElem (by omega)⟩
      obtain ⟨b, off, rfl, hb, c0, c1⟩ := fld_at (hin.below hbel) hf
      obtain ⟨b', off', rfl, hb', c0', c1'⟩ := fld_at (hin'.below hbel) hf
      clear hf
      generalize (⟨f.1.toArray⟩ : ByteArray) = X at *
      generalize (⟨f.2.toArray⟩ : ByteArray) = Y at *
      have hne := fun w => fld_neq X Y w
      go_wp2
      go_quiet (fail)
      go_wp2
      go_roundw
      case rel => exact ⟨k + 1, by omega, by go_num, below_drewN hbel _⟩
      case measure => simp [intOf]; omega
    · go_wp2
      go_ret
      exact ⟨rfl, hbel⟩
def oneL (fs : List Fld) (s : List UInt8) : List UInt8 × Bool := match getL fs s with
  | [x] => (x, true)
  | _ => ([], false)
end Go.Proofs.YtkodeeneljkgeaaDoor

/- Walks of layer 3: a copy of fields; the closures of Without and With, and what the library's search makes of them. Condition: at most 10^6 fields and names, texts within 10^9 octets. -/
namespace Go.Proofs.YtkodeeneljkgeaaDoor
open Go.RowKit IH
set_option maxRecDepth 100000
theorem eql_slice_nil {P : Program} (w : World) (t e : TypeId) (a : Option Addr) (l c : Nat) (h : P.underlying t = some (.slice e)) : (binOp .eql t (.slice a l c) (.slice none 0 0)).run P w = .ok (.bool a.isNone) w := by
  simp only [binOp]
  simp [run_equal_slice_nil w t e a l c h]
def smallS (M : Nat) (N : List (List UInt8)) : Prop := ∀ x ∈ N, x.length ≤ M
theorem str_at {w : World} {B n c : Nat} {A : Option Addr} {L : List (List UInt8)} (h : SliceIn w B 1 A n c (strsV L)) {k : Nat} {x : List UInt8} (hk : L[k]? = some x) :
    ∃ b off, A = some ⟨b, off, none⟩ ∧ b < B ∧ w.cell? ⟨b, off + k, none⟩ = some (.string ⟨x.toArray⟩) := by
  obtain ⟨h1, h2, h3, h4⟩ := h
  have hkl : k < L.length := (List.getElem?_eq_some_iff.1 hk).1
  rw [strsV_length] at h1
  obtain ⟨b, off, rfl, hb, hc⟩ := h4 (by omega)
  exact ⟨b, off, rfl, hb, hc _ _ (by rw [strsV_get, hk]; rfl)⟩
theorem str_count {w : World} {B n c : Nat} {A : Option Addr} {L : List (List UInt8)} (h : SliceIn w B 1 A n c (strsV L)) : L.length = n := by
  have := h.1
  rw [strsV_length] at this
  omega
end Go.Proofs.YtkodeeneljkgeaaDoor

/- Walks of layer 3: fields but those of some names. Condition: at most 10^6 fields and names, texts within 10^9 octets. -/
namespace Go.Proofs.YtkodeeneljkgeaaDoor
open Go.RowKit IH
set_option maxRecDepth 100000
def ofNames (N : List (List UInt8)) (f : Fld) : Bool := N.any fun x => isN f x
theorem withoutL_names (L : List Fld) (N : List (List UInt8)) : withoutL L N = L.filter fun f => !ofNames N f := rfl
theorem withoutN_snoc (L : List Fld) (N : List (List UInt8)) (k : Nat) (f : Fld) (hk : L[k]? = some f) : withoutL (L.take (k + 1)) N = withoutL (L.take k) N ++ if ofNames N f = true then [] else [f] := by
  rw [withoutL_names, withoutL_names, List.take_add_one, hk, List.filter_append]
  cases h : ofNames N f <;> simp [h]
theorem withoutN_none (L : List Fld) (N : List (List UInt8)) (h : L.any (ofNames N) = false) : withoutL L N = L := by
  rw [withoutL_names, List.filter_eq_self]
  intro f hf
  rw [List.any_eq_false] at h
  have := h f hf
  simpa using this
theorem fi_cases {α : Type} (p : α → Bool) (L : List α) : (fi p L = -1 ∧ L.any p = false) ∨ ∃ (i : Nat) (x : α), fi p L = i ∧ L[i]? = some x ∧ p x = true ∧ (L.take i).any p = false := by
  unfold fi
  cases h : L.findIdx? p with
  | none =>
    left
    rw [List.findIdx?_eq_none_iff] at h
    refine ⟨rfl, ?_⟩
    rw [List.any_eq_false]
    intro x hx
    simp [h x hx]
  | some i =>
    right
    obtain ⟨hl, hp, hn⟩ := List.findIdx?_eq_some_iff_getElem.1 h
    refine ⟨i, _, rfl, List.getElem?_eq_getElem hl, hp, ?_⟩
    rw [List.any_eq_false]
    intro x hx
    obtain ⟨j, hj, rfl⟩ := List.mem_iff_getElem.1 hx
    have hj' : j < i := by rw [List.length_take] at hj; omega
    rw [List.getElem_take]
    simpa using hn j hj'
theorem fldsV_set (M : List Fld) (k : Nat) (f : Fld) : ((fldsV M).set (k * 2) (.string ⟨f.1.toArray⟩)).set (k * 2 + 1) (.string ⟨f.2.toArray⟩) = fldsV (M.set k f) := by
  induction M generalizing k with
  | nil => simp [fldsV]
  | cons g M ih =>
    have e : ∀ (g : Fld) M, fldsV (g :: M) = .string ⟨g.1.toArray⟩ :: .string ⟨g.2.toArray⟩ :: fldsV M := fun _ _ => rfl
    cases k with
    | zero => rw [List.set_cons_zero, e, e]; rfl
    | succ k =>
      rw [List.set_cons_succ, e, e, ← ih, show (k + 1) * 2 = k * 2 + 1 + 1 by omega]
      rfl
theorem fld_zero_one : ∀ v ∈ (Value.agg #[.string ⟨#[]⟩, .string ⟨#[]⟩]).cells.toList, v.oneCell' = true := by
  intro v hv
  simp [Value.cells] at hv
  subst hv
  rfl
end Go.Proofs.YtkodeeneljkgeaaDoor

/- Walks of layer 3: Without and With. Condition: at most 10^6 fields and names, texts within 10^9 octets. -/
namespace Go.Proofs.YtkodeeneljkgeaaDoor
open Go.RowKit IH
set_option maxRecDepth 100000
theorem own_mono {w : World} {base base' : Nat} {e : TypeId} {size n : Nat} {v : Value} {xs : List Value} (h : w.ownsRow base e size v n xs) (hb : base' ≤ base) : w.ownsRow base' e size v n xs := by
  refine ⟨h.1, ?_⟩
  rcases h.2 with h2 | ⟨g, cap, cur, hv, hg, r⟩
  · exact .inl h2
  · exact .inr ⟨g, cap, cur, hv, by omega, r⟩
theorem without_small {M : Nat} {L : List Fld} (N : List (List UInt8)) (h : smallF M L) : smallF M (withoutL L N) := fun f hf => h f (List.mem_filter.1 hf).1
theorem with1_small {M : Nat} {L : List Fld} {m : Fld} (h : smallF M L) (hm : m.1.length ≤ M ∧ m.2.length ≤ M) : smallF M (with1 L m) := by
  intro f hf
  unfold with1 at hf
  split at hf
  · rcases List.mem_append.1 hf with h1 | h1
    · exact h f h1
    · rw [List.mem_singleton.1 h1]; exact hm
  · rcases List.mem_append.1 hf with h1 | h1
    · rcases List.mem_append.1 h1 with h2 | h2
      · exact h f (List.mem_of_mem_take h2)
      · rw [List.mem_singleton.1 h2]; exact hm
    · exact h f (List.mem_of_mem_drop (List.mem_filter.1 h1).1)
theorem withL_snoc (L K : List Fld) (k : Nat) (m : Fld) (hk : K[k]? = some m) : withL L (K.take (k + 1)) = with1 (withL L (K.take k)) m := by
  unfold withL
  rw [List.take_add_one, hk, List.foldl_append]
  rfl
theorem withL_bd {M : Nat} {L K : List Fld} (h : smallF M L) (hK : smallF M K) : ∀ k, k ≤ K.length → smallF M (withL L (K.take k)) ∧ (withL L (K.take k)).length ≤ L.length + k := by
  intro k
  induction k with
  | zero => intro _; exact ⟨by simpa [withL] using h, by simp [withL]⟩
  | succ k ih =>
    intro hk
    obtain ⟨m, hm⟩ : ∃ m, K[k]? = some m := ⟨_, List.getElem?_eq_getElem (by omega)⟩
    obtain ⟨h1, h2⟩ := ih (by omega)
    rw [withL_snoc L K k m hm]
    have := with1_length (withL L (K.take k)) m
    exact ⟨with1_small h1 (smallF_get hK hm), by omega⟩
theorem with1_none {L : List Fld} {m : Fld} (h : fi (fun f => isN f m.1) L = -1) : with1 L m = L ++ [m] := by
  unfold fi at h
  unfold with1
  cases hq : L.findIdx? (fun f => isN f m.1) with
  | none => rfl
  | some i => rw [hq] at h; simp only at h; omega
theorem with1_some {L : List Fld} {m : Fld} {i : Nat} (h : fi (fun f => isN f m.1) L = i) : with1 L m = L.take i ++ [m] ++ withoutL (L.drop (i + 1)) [m.1] ∧ i < L.length := by
  unfold fi at h
  unfold with1
  cases hq : L.findIdx? (fun f => isN f m.1) with
  | none => rw [hq] at h; simp only at h; omega
  | some j =>
    rw [hq] at h
    have : j = i := by simp only at h; omega
    subst this
    exact ⟨rfl, (List.findIdx?_eq_some_iff_getElem.1 hq).1⟩
theorem own_take {w : World} {base : Nat} {e : TypeId} {g n c : Nat} {O : List Fld} (h : w.ownsRow base e 2 (.slice (some ⟨g, 0, none⟩) n c) n (fldsV O)) (i : Nat) (hi : i ≤ n) : SliceIn w w.heap.size 2 (some ⟨g, 0, none⟩) i c (fldsV (O.take i)) := by
  have hs := (SliceIn.of_own h).sub (a := 0) (b := i) (Nat.zero_le _) hi (some ⟨g, 0, none⟩) (fun _ => by simp [add_plain])
  simp only [Nat.sub_zero, Nat.zero_mul, List.drop_zero] at hs
  rw [fldsV_take] at hs
  exact hs
theorem own_drop {w : World} {base : Nat} {e : TypeId} {g n c : Nat} {O : List Fld} (h : w.ownsRow base e 2 (.slice (some ⟨g, 0, none⟩) n c) n (fldsV O)) (i : Nat) (hi : i ≤ n) (A : Option Addr) (hA : i < n → A = some ⟨g, i * 2, none⟩) : SliceIn w w.heap.size 2 A (n - i) (c - i) (fldsV (O.drop i)) := by
  have hs := (SliceIn.of_own h).sub (a := i) (b := n) hi (Nat.le_refl _) A (fun hlt => by rw [hA hlt]; simp [add_plain])
  rw [fldsV_drop, List.take_of_length_le] at hs
  · exact hs
  · have := h.1
    rw [fldsV_length] at this ⊢
    rw [List.length_drop, Nat.sub_mul]
    omega
end Go.Proofs.YtkodeeneljkgeaaDoor

/- Walk of layer 3: With. Condition: at most 10^5 fields, texts within 10^9 octets. -/
namespace Go.Proofs.YtkodeeneljkgeaaDoor
open Go.RowKit IH
set_option maxRecDepth 100000
theorem row_at {w W : World} (_h : Hid (Below w.heap.size w W)) (e : TypeId) (cs : List Value) : RowAt (W.alloc (.cells cs.toArray e)) W.heap.size e cs := RowAt.new W e cs
theorem row_size {w : World} {g g' : Nat} {e : TypeId} {cs : List Value} (h : RowAt w g e cs) (hg : g = g') : RowAt w g' e cs := hg ▸ h
theorem ne_new {w W : World} (_h : Hid (Below w.heap.size w W)) {base : Nat} {e : TypeId} {size n : Nat} {v : Value} {xs : List Value} (r : W.ownsRow base e size v n xs) : ∀ q, v.ownBlock = some q → q ≠ W.heap.size := fun q hq he => by
  have := (r.lt q hq).2
  omega
theorem ne_old {W W' : World} {e : TypeId} {size n gn : Nat} {v : Value} {xs : List Value} (r : W'.ownsRow W.heap.size e size v n xs) (hg : gn < W.heap.size) : ∀ q, v.ownBlock = some q → q ≠ gn := fun q hq he => by
  have := (r.lt q hq).1
  omega
theorem row_grown {W W' : World} {gn : Nat} {e : TypeId} {cs : List Value} {row : Option Nat} (h : RowAt W gn e cs) (hgr : W.grownBy W' row) (hne : ∀ q, row = some q → q ≠ gn) : RowAt W' gn e cs :=
  h.keep (hgr.block gn h.lt (fun he => hne gn he.symm rfl))
end Go.Proofs.YtkodeeneljkgeaaDoor

/- Walks of layer 3: bytes.Index and bytes.Cut at lists, a header's line. Condition: at most 10^9 octets; the world's shape. -/
namespace Go.Proofs.YtkodeeneljkgeaaDoor
open Go.RowKit IH
set_option maxRecDepth 100000
def natsI (l : List UInt8) : List Int := l.map fun u => (u.toNat : Int)
theorem bytesOf_nats (l : List UInt8) : Lib.bytesOf (natsI l) = l := by
  unfold Lib.bytesOf natsI
  rw [List.map_map]
  conv => rhs; rw [← List.map_id l]
  apply List.map_congr_left
  intro u _
  simp
theorem nats_range (l : List UInt8) : ∀ x ∈ natsI l, 0 ≤ x ∧ x < 256 := by
  intro x hx
  obtain ⟨u, _, rfl⟩ := List.mem_map.1 hx
  have := u.toNat_lt
  omega
theorem nats_cells {w : World} {B b o n c : Nat} {l : List UInt8} (h : SliceIn w B 1 (some ⟨b, o, none⟩) n c (bytesV l)) : (natsI l).length = n ∧ ∀ i, i < n → w.cell? ((⟨b, o, none⟩ : Addr).add i) = some (.int .u8 ((natsI l).getD i 0)) := by
  have hl : l.length = n := by have := h.1; rw [bytesV_length, Nat.mul_one] at this; exact this
  refine ⟨by simp [natsI, hl], fun i hi => ?_⟩
  obtain ⟨b', o', e, _, hc⟩ := h.2.2.2 (by omega)
  simp only [Option.some.injEq, Addr.mk.injEq, and_true] at e
  obtain ⟨rfl, rfl⟩ := e
  have hil : i < l.length := by omega
  rw [add_plain, hc i (byteV l[i]) (by rw [bytesV_get, List.getElem?_eq_getElem hil]; rfl)]
  simp [byteV, natsI, List.getD_eq_getElem?_getD, hil]
theorem index_cr (l : List UInt8) : Lib.index l [13, 10] = match crAt l with | none => -1 | some n => (n : Int) := by
  induction l with
  | nil => rfl
  | cons b l ih =>
    unfold Lib.index crAt
    by_cases h : b = 13 ∧ l.head? = some 10
    · have hp : ([13, 10] : List UInt8).isPrefixOf (b :: l) = true := by
        obtain ⟨rfl, h2⟩ := h
        cases l with
        | nil => cases h2
        | cons d r => simp only [List.head?_cons, Option.some.injEq] at h2; subst h2; rfl
      rw [if_pos hp, if_pos h]
      rfl
    · have hp : ([13, 10] : List UInt8).isPrefixOf (b :: l) = false := by
        rw [Bool.eq_false_iff]
        intro hp
        rw [List.isPrefixOf_iff_prefix] at hp
        obtain ⟨t, ht⟩ := hp
        simp only [List.cons_append, List.nil_append, List.cons.injEq] at ht
        exact h ⟨ht.1.symm, by rw [← ht.2]; rfl⟩
      rw [if_neg (by rw [hp]; decide), if_neg h, ih]
      cases hc : crAt l with
      | none => rfl
      | some k =>
        have : ((k : Int) == -1) = false := by rw [beq_eq_false_iff_ne]; omega
        simp [this]
theorem index_one (l : List UInt8) (d : UInt8) : (d ∉ l → Lib.index l [d] = -1) ∧ (d ∈ l → Lib.index l [d] = ((l.takeWhile (· != d)).length : Nat)) := by
  rw [Lib.index_one]
  constructor
  · intro h
    exact indexByte_no d l fun x hx e => h (e ▸ hx)
  · intro h
    obtain ⟨a, b, rfl, ha⟩ := List.eq_append_cons_of_mem h
    have ha' : ∀ x ∈ a, x ≠ d := fun x hx e => ha (e ▸ hx)
    rw [indexByte_mid d a b ha', (takeWhile_to ha').1]
/-- The row of a constant's octets. -/
theorem RowAt.lit (w : World) (e : TypeId) (cs : List Value) : RowAt (w.alloc (.cells cs.toArray e (cs.length, cs.length + 1))) w.heap.size e cs :=
  ⟨cs.toArray, cs.length, cs.length + 1, heap_alloc_new w _, by simp, by simp⟩
/-- What line says. -/
def lineRes (N a : Nat) (rest : List UInt8) : List UInt8 × Int × Int := match lineF N a rest with
  | (some s, _) => (s, (a : Int) + s.length + 2, 0)
  | (none, e) => ([], 0, e)
end Go.Proofs.YtkodeeneljkgeaaDoor

/- Walk of layer 3: a header, read. Condition: at most 10^9 octets; the world's shape. -/
namespace Go.Proofs.YtkodeeneljkgeaaDoor
open Go.RowKit IH
set_option maxRecDepth 100000
theorem lineRes_none {N a : Nat} {l : List UInt8} {e : Int} (h : lineF N a l = (none, e)) : lineRes N a l = ([], 0, e) := by unfold lineRes; rw [h]
theorem lineRes_some {N a : Nat} {l s : List UInt8} {e : Int} (h : lineF N a l = (some s, e)) : lineRes N a l = (s, (a : Int) + s.length + 2, 0) := by unfold lineRes; rw [h]
theorem lineF_err {N a : Nat} {l : List UInt8} {e : Int} (h : lineF N a l = (none, e)) : e = 11 ∨ e = 12 := by
  unfold lineF at h
  split at h
  · simp only [Prod.mk.injEq, true_and] at h
    split at h
    · exact .inr h.symm
    · exact .inl h.symm
  · split at h
    · simp only [Prod.mk.injEq, true_and] at h
      exact .inr h.symm
    · cases h
/-- One step of the reading. -/
theorem parseF_step {N a : Nat} {l s : List UInt8} {out : List Fld} (h : lineF N a l = (some s, 0)) (hs : s ≠ []) :
    parseF (l.length + 1) N a l out = match headF s with
      | none => ([], 0, 10)
      | some f => if out.length = 128 then ([], 0, 13) else parseF ((l.drop (s.length + 2)).length + 1) N (a + s.length + 2) (l.drop (s.length + 2)) (out ++ [f]) := by
  have hle := lineF_le h
  conv => lhs; unfold parseF
  rw [h]
  simp only
  rw [if_neg hs]
  cases headF s with
  | none => rfl
  | some f =>
    simp only
    split
    · rfl
    · exact parseF_more _ _ _ _ _ _ (by rw [List.length_drop]; omega) (Nat.lt_succ_self _)
theorem headF_none_of {s : List UInt8} (h : 58 ∉ s) : headF s = none := by unfold headF; rw [if_neg h]
theorem headF_of {s : List UInt8} (h : 58 ∈ s) : headF s = if fit (s.takeWhile (· != 58), trim ((s.dropWhile (· != 58)).drop 1)) = true then some (s.takeWhile (· != 58), trim ((s.dropWhile (· != 58)).drop 1)) else none := by unfold headF; rw [if_pos h]
theorem trim_le (l : List UInt8) : (trim l).length ≤ l.length := by
  have h1 : ∀ l : List UInt8, (trimL l).length ≤ l.length := fun l => (List.dropWhile_suffix _).length_le
  unfold trim trimR
  have h2 := h1 (trimL l.reverse).reverse
  have h3 := h1 l.reverse
  rw [List.length_reverse] at h2 h3
  omega
theorem lineF_ok {N a : Nat} {l s : List UInt8} {e : Int} (h : lineF N a l = (some s, e)) : e = 0 := by
  unfold lineF at h
  split at h
  · cases h
  · split at h
    · cases h
    · simp only [Prod.mk.injEq] at h
      exact h.2.symm
/-- What is cut at the colon: ahead, behind; is there one? -/
def cut58 (s : List UInt8) : List UInt8 × List UInt8 × Bool := if 58 ∈ s then (s.takeWhile (· != 58), (s.dropWhile (· != 58)).drop 1, true) else (s, [], false)
theorem headF_cut (s : List UInt8) : headF s = if (cut58 s).2.2 = true ∧ fit ((cut58 s).1, trim (cut58 s).2.1) = true then some ((cut58 s).1, trim (cut58 s).2.1) else none := by
  unfold cut58
  by_cases h : 58 ∈ s
  · rw [if_pos h, headF_of h]
    simp
  · rw [if_neg h, headF_none_of h]
    simp
theorem cut_len (s : List UInt8) : (cut58 s).1.length ≤ s.length ∧ (cut58 s).2.1.length ≤ s.length := by
  unfold cut58
  split
  · have h1 := (List.takeWhile_prefix (l := s) (· != (58 : UInt8))).length_le
    have h2 := (List.dropWhile_suffix (l := s) (· != (58 : UInt8))).length_le
    simp only [List.length_drop]
    omega
  · simp
theorem emp_list {s : ByteArray} {l : List UInt8} (h : s.data.toList = l) (hl : l ≠ []) : s.toList.isEmpty = false := by
  rw [ByteArray.toList_eq, h, List.isEmpty_eq_false_iff]; exact hl
end Go.Proofs.YtkodeeneljkgeaaDoor

/- Walk of layer 3's document: a header, read. Condition: at most 65535 octets. -/
namespace Go.Proofs.YtkodeeneljkgeaaDoor
open Go.RowKit IH
set_option maxRecDepth 100000
theorem crAt_two (c0 c1 : UInt8) (r : List UInt8) : crAt (c0 :: c1 :: r) = if c0 = 13 ∧ c1 = 10 then some 0 else (crAt (c1 :: r)).map (· + 1) := by
  conv => lhs; unfold crAt
  simp
theorem crAt_short {l : List UInt8} (h : l.length ≤ 1) : crAt l = none := by
  match l, h with
  | [], _ => rfl
  | [c], _ => simp [crAt]
theorem take_split {s : List UInt8} {k : Nat} (hc : s[k]? = some 58) (hno : ∀ c ∈ s.take k, c ≠ 58) : cut58 s = (s.take k, s.drop (k + 1), true) := by
  have e : s = s.take k ++ 58 :: s.drop (k + 1) := by
    obtain ⟨h1, h2⟩ := List.getElem?_eq_some_iff.1 hc
    conv => lhs; rw [← List.take_append_drop k s, List.drop_eq_getElem_cons h1, h2]
  have h58 : 58 ∈ s := by rw [e]; simp
  unfold cut58
  rw [if_pos h58]
  conv => lhs; rw [e]
  rw [(takeWhile_to hno).1, (takeWhile_to hno).2]
  rfl
end Go.Proofs.YtkodeeneljkgeaaDoor

/- Walks of layer 3: what is wrong with fields; fields as a header. Condition: at most 10^6 fields, texts within 10^9 octets. -/
namespace Go.Proofs.YtkodeeneljkgeaaDoor
open Go.RowKit IH
set_option maxRecDepth 100000
theorem strCells_bytes (s : ByteArray) : Lib.strCells s = bytesV s.data.toList := by
  simp [Lib.strCells, bytesV, byteV]
theorem wp_app_str {w : World} {o : Oper} {a : Act} {K : Act → World → Prop} {Q : Exit → Act → World → Prop} (sl x : Operand)
    (ho : o.op = .call { callee := .builtin .append, args := #[sl, x], argTypes := #[22, 9] })
    (base : Nat) (v : Value) (n : Nat) (l : List UInt8) (hs : a.eval sl = v) (hown : w.ownsRow base 5 1 v n (bytesV l)) (s : ByteArray) (hx : a.eval x = .string s)
    (hb : n + s.size ≤ 140737488355328) (hbase : base ≤ w.heap.size)
    (h : ∀ v' w', w'.ownsRow base 5 1 v' (n + s.size) (bytesV (l ++ s.data.toList)) → w.grownBy w' v.ownBlock → K (a.put o.dst v') w') : o.wp Tryd.prog a w K Q := by
  obtain ⟨i0, hi, hz0, hz1, hz2⟩ := info_parts u8_ty.hi
  obtain ⟨v', w', hr, h2, h3, h4⟩ := Lib.run_append_own_string (P := Tryd.prog) w base 22 9 o.type 5 i0 Tryd.underlying22 Tryd.underlying9 hi hz0 hz1 hz2 v n (bytesV l) hown s (by simp only [maxLen]; omega) hb hbase
  rw [strCells_bytes, ← bytesV_append] at h2
  unfold Oper.wp execOp
  simp only [ho, resolve, invoke, builtin, Sem.run_bind, Sem.run_pure, Result.andThen_ok, List.map_toArray, List.map_cons, List.map_nil, hs, hx, hr]
  exact h v' w' h2 h3
theorem wpList_app_str {w : World} {ops : Array Oper} {rest : List Oper} {o : Oper} {a : Act} {Q : Exit → Act → World → Prop} (hgd : o.guard = none) (sl x : Operand)
    (ho : o.op = .call { callee := .builtin .append, args := #[sl, x], argTypes := #[22, 9] })
    (base : Nat) (v : Value) (n : Nat) (l : List UInt8) (hs : a.eval sl = v) (hown : w.ownsRow base 5 1 v n (bytesV l)) (s : ByteArray) (hx : a.eval x = .string s)
    (hb : n + s.size ≤ 140737488355328) (hbase : base ≤ w.heap.size)
    (h : ∀ v' w', w'.ownsRow base 5 1 v' (n + s.size) (bytesV (l ++ s.data.toList)) → w.grownBy w' v.ownBlock → wpList Tryd.prog ops Q rest (a.put o.dst v') w') : wpList Tryd.prog ops Q (o :: rest) a w :=
  wpList_plain hgd fun _ hK => wp_app_str sl x ho base v n l hs hown s hx hb hbase fun v' w' h2 h3 => hK _ _ (h v' w' h2 h3)
theorem ne_type {w : World} {g base size n : Nat} {e e' : TypeId} {cs xs : List Value} {v : Value} (hown : w.ownsRow base e' size v n xs) (hr : RowAt w g e cs) (hne : e ≠ e') : ∀ q, v.ownBlock = some q → q ≠ g := by
  intro q hq he
  subst he
  rcases hown.2 with ⟨rfl, _⟩ | ⟨g', cap, cur, rfl, _, hh, _⟩
  · cases hq
  · simp only [Value.ownBlock, Option.some.injEq] at hq
    subst hq
    obtain ⟨cur2, lo, hi, hh2, _⟩ := hr
    rw [hh] at hh2
    simp only [Option.some.injEq, Obj.cells.injEq] at hh2
    exact hne hh2.2.1.symm
theorem own_count {w : World} {base size n m : Nat} {e : TypeId} {v : Value} {xs : List Value} (h : w.ownsRow base e size v n xs) (hn : n = m) : w.ownsRow base e size v m xs := hn ▸ h
theorem lines_length (L : List Fld) : (L.flatMap line1).length + 2 = sizeL L := by
  have := printL_length L
  unfold printL at this
  rw [List.length_append] at this
  simpa using this
theorem lines_snoc (L : List Fld) (k : Nat) (f : Fld) (hk : L[k]? = some f) : (L.take (k + 1)).flatMap line1 = (L.take k).flatMap line1 ++ (f.1 ++ [58, 32] ++ f.2 ++ [13, 10]) := by
  rw [List.take_add_one, hk]
  simp [line1]
set_option maxHeartbeats 4000000 in
theorem fault_any (A : Option Addr) (n c : Nat) (L : List Fld) (w : World) (hin : SliceIn w w.heap.size 2 A n c (fldsV L)) (hs : n ≤ 1000000) (hm : smallF 1000000000 L) :
    Calls Tryd.prog 53 #[.slice A n c] w fun e w' => e = .returned (.int .i64 (faultL L)) ∧ Below w.heap.size w w' := by
  have hL := fld_count hin
  have CF := ContainsFault_any A n c L w hin hs hm
  have SZ := fun w1 (hb : Below w.heap.size w w1) => fsize_any A n c L w1 ((hin.below hb).more hb.size) hs hm
  have e1 : L.any unfit = L.any (fun f => !fit f) := rfl
  rw [e1] at CF
  have hsb := sizeL_bd 1000000000 L hm
  rw [hL] at hsb
  unfold faultL
  rw [hL]
  generalize sizeL L = z at *
  clear hin hm e1
  replace SZ := Lib.hid SZ
  cases hb : L.any (fun f => !fit f)
  · rw [if_neg (by simp)]
    rw [hb] at CF
    replace CF := Lib.hid CF
    clear hb
    by_cases h1 : 128 < n
    · rw [if_pos h1]
      have h1I : (128 : Int) < (n : Int) := by omega
      clear h1
      go_enter Tryd.func53, Tryd.ntmps53
      go_wp2_with (go_at_call 62; refine CF.out.mono ?_; rintro e w2 ⟨rfl, hb2⟩)
      go_ret
      exact ⟨rfl, hb2⟩
    · rw [if_neg h1]
      have h1I : (n : Int) ≤ (128 : Int) := by omega
      clear h1
      by_cases h2 : 65536 < z
      · rw [if_pos h2]
        have h2I : (65536 : Int) < (z : Int) := by omega
        clear h2
        go_enter Tryd.func53, Tryd.ntmps53
        go_wp2_with (first
          | (go_at_call 62; refine CF.out.mono ?_; rintro e w2 ⟨rfl, hb2⟩)
          | (go_at_call 65; refine (SZ.out _ hb2).mono ?_; rintro e w3 ⟨rfl, hb3⟩))
        go_ret
        exact ⟨rfl, below_step hb2 hb3⟩
      · rw [if_neg h2]
        have h2I : (z : Int) ≤ (65536 : Int) := by omega
        clear h2
        go_enter Tryd.func53, Tryd.ntmps53
        go_wp2_with (first
          | (go_at_call 62; refine CF.out.mono ?_; rintro e w2 ⟨rfl, hb2⟩)
          | (go_at_call 65; refine (SZ.out _ hb2).mono ?_; rintro e w3 ⟨rfl, hb3⟩))
        go_ret
        exact ⟨rfl, below_step hb2 hb3⟩
  · rw [if_pos rfl]
    rw [hb] at CF
    replace CF := Lib.hid CF
    clear hb
    go_enter Tryd.func53, Tryd.ntmps53
    go_wp2_with (go_at_call 62; refine CF.out.mono ?_; rintro e w2 ⟨rfl, hb2⟩)
    go_ret
    exact ⟨rfl, hb2⟩
end Go.Proofs.YtkodeeneljkgeaaDoor
