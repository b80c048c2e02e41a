/- Kt: several texts, one behind the other. -/
import Derived.Test.YtniiadhhefgmcaaGreatDoorRows
import Derived.WalkKit
import Derived.WalkSpells
import Derived.WalkLawsBesides
import Derived.Lib.Hide
import Derived.BigQuiet
import Derived.Deep.QuietTactic
import Derived.Deep.DeepFit
import Derived.Deep.Draws
import Derived.Lib.CutLaws
import Derived.Below
import Derived.Laws.OwnMore
import Derived.Laws.BytesArg
import Derived.Lib.ConvBytes
import Derived.Deep.AppendLies
import Derived.Maps.AppendAt
import Derived.OwnWalk
import Derived.Lib.AppendStr
import Derived.Deep.RegionHeld3
import Derived.Laws.Concat
/- Small facts on strings as lists of octets, and on what calls return. Plain; no condition. -/
namespace Go.Proofs.YtniiadhhefgmcaaGreatDoor
open Go.RowKit

theorem ret_int {k : IntKind} {a b : Int} (h : a = b) : Ending.returned (.int k a) = .returned (.int k b) := by rw [h]
theorem ret_bool {a b : Bool} (h : a = b) : Ending.returned (.bool a) = .returned (.bool b) := by rw [h]
theorem ret_str {a b : ByteArray} (h : a = b) : Ending.returned (.string a) = .returned (.string b) := by rw [h]
/-- A string whose octets are a list. -/
theorem bytes_eq {s : ByteArray} {l : List UInt8} (h : s.data.toList = l) : s = ⟨l.toArray⟩ := by
  subst h; exact (Lib.mk_data s).symm
theorem take_data (s : ByteArray) (k : Nat) (_h : k ≤ s.size) : (s.extract 0 k).data.toList = s.data.toList.take k := by
  rw [Lib.extract_data]; simp
theorem drop_data (s : ByteArray) (k : Nat) : (s.extract k s.size).data.toList = s.data.toList.drop k := Lib.extract_to_end s k
theorem append_data (s t : ByteArray) : (s ++ t).data.toList = s.data.toList ++ t.data.toList := by simp
theorem get_data (s : ByteArray) (k : Nat) (h : k < s.size) : s.data.toList[k]? = some s[k] := Lib.data_getElem? s k h
theorem data_len (s : ByteArray) : s.data.toList.length = s.size := (Lib.size_eq s).symm
theorem data_split (s : ByteArray) (k : Nat) (h : k < s.size) : s.data.toList = s.data.toList.take k ++ s[k] :: s.data.toList.drop (k + 1) := by
  have h1 : k < s.data.toList.length := by rw [data_len]; exact h
  have h2 : s.data.toList[k] = s[k] := by
    have := get_data s k h
    rw [List.getElem?_eq_getElem h1] at this
    exact Option.some.inj this
  conv => lhs; rw [← List.take_append_drop k s.data.toList, List.drop_eq_getElem_cons h1, h2]
theorem data_take_succ (s : ByteArray) (k : Nat) (h : k < s.size) : s.data.toList.take (k + 1) = s.data.toList.take k ++ [s[k]] := by
  rw [List.take_add_one, get_data s k h]; rfl
theorem data_drop (s : ByteArray) (k : Nat) (h : k < s.size) : s.data.toList.drop k = s[k] :: s.data.toList.drop (k + 1) := by
  have h1 : k < s.data.toList.length := by rw [data_len]; exact h
  have h2 : s.data.toList[k] = s[k] := by
    have := get_data s k h
    rw [List.getElem?_eq_getElem h1] at this
    exact Option.some.inj this
  rw [List.drop_eq_getElem_cons h1, h2]
theorem size_mk (l : List UInt8) : (⟨l.toArray⟩ : ByteArray).size = l.length := by rw [← data_len]
theorem below_drewN {B : Nat} {a w : World} (h : Below B a w) (n : Nat) : Below B a (w.drewN n) := ⟨h.os, h.tape, h.output, h.size, h.block⟩
end Go.Proofs.YtniiadhhefgmcaaGreatDoor

/- Memory: a slice that reads as a list, a row that is known from its head on, appends onto rows of the call's own, octets turned into strings and back. Conditions: as each states. -/
namespace Go.Proofs.YtniiadhhefgmcaaGreatDoor
open Go.RowKit

def byteV (u : UInt8) : Value := .int .u8 u.toNat
def bytesV (l : List UInt8) : List Value := l.map byteV
theorem bytesV_length (l : List UInt8) : (bytesV l).length = l.length := by simp [bytesV]
theorem bytesV_append (a b : List UInt8) : bytesV (a ++ b) = bytesV a ++ bytesV b := by simp [bytesV]
theorem bytesV_get (l : List UInt8) (j : Nat) : (bytesV l)[j]? = l[j]?.map byteV := by simp [bytesV]
theorem bytesV_one (l : List UInt8) : ∀ u ∈ bytesV l, u.oneCell' = true := by
  intro u hu
  obtain ⟨c, _, rfl⟩ := List.mem_map.1 hu
  rfl

theorem one1 (x : Value) (h : x.oneCell' = true) : ∀ u ∈ [x], u.oneCell' = true := by
  intro u hu; rw [List.mem_singleton.1 hu]; exact h

theorem add_plain (b off j : Nat) : (⟨b, off, none⟩ : Addr).add j = ⟨b, off + j, none⟩ := by unfold Addr.add; split <;> simp_all

theorem below_step {w W W' : World} (h : Below w.heap.size w W) (hb : Below W.heap.size W W') : Below w.heap.size w W' := h.trans (hb.mono h.size)

/-- The slice value reads as the cells xs, n elements of so many cells; they lie below block B. -/
def SliceIn (w : World) (B size : Nat) (A : Option Addr) (n c : Nat) (xs : List Value) : Prop :=
  xs.length = n * size ∧ n ≤ c ∧ c ≤ maxLen ∧ (0 < n → ∃ b off, A = some ⟨b, off, none⟩ ∧ b < B ∧ ∀ j u, xs[j]? = some u → w.cell? ⟨b, off + j, none⟩ = some u)

section
variable {w w' : World} {B B' size n c : Nat} {A : Option Addr} {xs : List Value}
theorem SliceIn.none_ {c : Nat} (h : c ≤ maxLen) : SliceIn w B size A 0 c [] := ⟨by simp, Nat.zero_le _, h, fun h => absurd h (by omega)⟩
theorem SliceIn.keep (h : SliceIn w B size A n c xs) (hk : ∀ p : Addr, p.block < B → w'.cell? p = w.cell? p) : SliceIn w' B size A n c xs :=
  ⟨h.1, h.2.1, h.2.2.1, fun hn => by
    obtain ⟨b, off, e, hb, hc⟩ := h.2.2.2 hn
    exact ⟨b, off, e, hb, fun j u hu => (hk _ hb).trans (hc j u hu)⟩⟩
theorem SliceIn.more (h : SliceIn w B size A n c xs) (hB : B ≤ B') : SliceIn w B' size A n c xs :=
  ⟨h.1, h.2.1, h.2.2.1, fun hn => by
    obtain ⟨b, off, e, hb, hc⟩ := h.2.2.2 hn
    exact ⟨b, off, e, by omega, hc⟩⟩
theorem SliceIn.below (h : SliceIn w B size A n c xs) (hb : Below B w w') : SliceIn w' B size A n c xs := h.keep fun _ hp => hb.cell hp
theorem SliceIn.drewN (h : SliceIn w B size A n c xs) (k : Nat) : SliceIn (w.drewN k) B size A n c xs := h
theorem SliceIn.alloc (h : SliceIn w B size A n c xs) (hB : B ≤ w.heap.size) (o : Obj) : SliceIn (w.alloc o) B size A n c xs := h.keep fun p hp => World.cell?_alloc_lt w o p (by omega)
theorem SliceIn.setCell (h : SliceIn w B size A n c xs) {p : Addr} (hB : B ≤ p.block) (u : Value) : SliceIn (w.setCell p u) B size A n c xs :=
  h.keep fun q hq => World.cell?_setCell_other w p q u (fun e => by subst e; omega)
theorem SliceIn.grown (h : SliceIn w B size A n c xs) {row : Option Nat} (hg : w.grownBy w' row) (hB : B ≤ w.heap.size) (hr : ∀ g, row = some g → B ≤ g) : SliceIn w' B size A n c xs :=
  h.keep fun p hp => World.cell?_of_block (hg.block p.block (by omega) (fun e => by have := hr _ e.symm; omega))
/-- x[a:b] of such a slice. -/
theorem SliceIn.sub (h : SliceIn w B size A n c xs) {a b : Nat} (hab : a ≤ b) (hb : b ≤ n) (A' : Option Addr) (hA : a < b → A' = A.map (·.add (a * size))) :
    SliceIn w B size A' (b - a) (c - a) ((xs.drop (a * size)).take ((b - a) * size)) := by
  obtain ⟨h1, h2, h3, h4⟩ := h
  refine ⟨?_, by omega, by omega, fun hn => ?_⟩
  · rw [List.length_take, List.length_drop, h1, ← Nat.sub_mul]
    exact Nat.min_eq_left (Nat.mul_le_mul_right _ (by omega))
  · obtain ⟨k, off, rfl, hk, hc⟩ := h4 (by omega)
    rw [hA (by omega)]
    refine ⟨k, off + a * size, by simp [add_plain], hk, fun j u hu => ?_⟩
    rw [List.getElem?_take] at hu
    split at hu
    · rw [List.getElem?_drop] at hu
      have := hc _ u hu
      rw [← Nat.add_assoc] at this
      exact this
    · cases hu
theorem SliceIn.of_own {base : Nat} {e : TypeId} (h : w.ownsRow base e size (.slice A n c) n xs) : SliceIn w w.heap.size size A n c xs := by
  have h1 := h.1
  rcases h.2 with ⟨h2, h3⟩ | ⟨g, cap, cur, hv, hb, hh, hn, hm, hs, ht⟩
  · injection h2 with e1 e2 e3
    subst e1 e2 e3
    exact ⟨h1, Nat.le_refl _, by simp [maxLen], fun h => absurd h (by omega)⟩
  · injection hv with e1 e2 e3
    subst e1 e3
    refine ⟨h1, hn, hm, fun _ => ⟨g, 0, rfl, (Array.getElem?_eq_some_iff.1 hh).1, fun j u hu => ?_⟩⟩
    have := h.cells (g := g) rfl j u hu
    rwa [add_plain] at this
end

theorem own_below {w w' : World} {base : Nat} {e : TypeId} {size n : Nat} {v : Value} {xs : List Value} (h : w.ownsRow base e size v n xs) (hb : Below w.heap.size w w') : w'.ownsRow base e size v n xs := by
  refine ⟨h.1, ?_⟩
  rcases h.2 with h2 | ⟨g, cap, cur, hv, hg, hh, r⟩
  · exact .inl h2
  · exact .inr ⟨g, cap, cur, hv, hg, (hb.block g (Array.getElem?_eq_some_iff.1 hh).1).trans hh, r⟩
theorem own_slice {w : World} {base : Nat} {e : TypeId} {size n : Nat} {v : Value} {xs : List Value} (h : w.ownsRow base e size v n xs) :
    ∃ A c, v = .slice A n c ∧ SliceIn w w.heap.size size A n c xs := by
  rcases h.2 with ⟨h2, h3⟩ | ⟨g, cap, cur, hv, r⟩
  · subst h2 h3
    exact ⟨none, 0, rfl, SliceIn.of_own h⟩
  · subst hv
    exact ⟨_, _, rfl, SliceIn.of_own h⟩

/-- Block g holds the cells cs from its head on, none of these frozen. -/
def RowAt (w : World) (g : Nat) (e : TypeId) (cs : List Value) : Prop :=
  ∃ cur lo hi, w.heap[g]? = some (.cells cur e (lo, hi)) ∧ cur.toList.take cs.length = cs ∧ cs.length ≤ lo + if hi ≤ lo then cs.length else 0

section
variable {w w' : World} {g : Nat} {e : TypeId} {cs : List Value}
theorem RowAt.lt (h : RowAt w g e cs) : g < w.heap.size := by
  obtain ⟨cur, lo, hi, hh, _⟩ := h
  exact (Array.getElem?_eq_some_iff.1 hh).1
theorem RowAt.cell (h : RowAt w g e cs) {j : Nat} {u : Value} (hu : cs[j]? = some u) : w.cell? ⟨g, j, none⟩ = some u := by
  obtain ⟨cur, lo, hi, hh, ht, _⟩ := h
  rw [cell_of_row w g j cur e (lo, hi) hh]
  rw [← ht, List.getElem?_take] at hu
  split at hu
  · simpa using hu
  · cases hu
theorem RowAt.frozen (h : RowAt w g e cs) {j : Nat} (hj : j < cs.length) : w.frozen? ⟨g, j, none⟩ = false := by
  obtain ⟨cur, lo, hi, hh, _, hf⟩ := h
  simp only [World.frozen?, hh]
  split at hf <;> simp <;> omega
theorem RowAt.set_ (h : RowAt w g e cs) {j : Nat} (_hj : j < cs.length) (u : Value) : RowAt (w.setCell ⟨g, j, none⟩ u) g e (cs.set j u) := by
  obtain ⟨cur, lo, hi, hh, ht, hf⟩ := h
  refine ⟨cur.setIfInBounds j u, lo, hi, ?_, ?_, by simpa using hf⟩
  · simp [World.setCell, Array.getElem?_modify, hh]
  · rw [List.length_set, Array.toList_setIfInBounds, List.take_set, ht]
theorem RowAt.keep (h : RowAt w g e cs) (hk : w'.heap[g]? = w.heap[g]?) : RowAt w' g e cs := by
  obtain ⟨cur, lo, hi, hh, r⟩ := h
  exact ⟨cur, lo, hi, hk.trans hh, r⟩
theorem RowAt.below {B : Nat} (h : RowAt w g e cs) (hb : Below B w w') (hg : g < B) : RowAt w' g e cs := h.keep (hb.block g hg)
theorem RowAt.alloc (h : RowAt w g e cs) (o : Obj) : RowAt (w.alloc o) g e cs := h.keep (Below.heap_alloc w o g h.lt)
theorem RowAt.far (h : RowAt w g e cs) {p : Addr} (hp : g ≠ p.block) (u : Value) : RowAt (w.setCell p u) g e cs := h.keep (Below.heap_setCell w p u g hp)
theorem RowAt.drewN (h : RowAt w g e cs) (n : Nat) : RowAt (w.drewN n) g e cs := h
theorem RowAt.slice (h : RowAt w g e cs) {size n c : Nat} (hs : cs.length = n * size) (hc : n ≤ c) (hm : c ≤ maxLen) : SliceIn w w.heap.size size (some ⟨g, 0, none⟩) n c cs :=
  ⟨hs, hc, hm, fun _ => ⟨g, 0, rfl, h.lt, fun j u hu => by rw [Nat.zero_add]; exact h.cell hu⟩⟩
theorem RowAt.new (w : World) (e : TypeId) (cs : List Value) : RowAt (w.alloc (.cells cs.toArray e)) w.heap.size e cs :=
  ⟨cs.toArray, 0, 0, heap_alloc_new w _, by simp, by simp⟩
theorem RowAt.bytes (w : World) (e : TypeId) (s : ByteArray) : RowAt (Lib.bytesWorld w e s) w.heap.size e (bytesV s.data.toList) := by
  have hz : (Lib.bytesCells w e s).toList.take s.size = bytesV s.data.toList := by
    simp only [Lib.bytesCells, Array.toList_append, Array.toList_map]
    have hl : (s.data.toList.map fun b : UInt8 => Value.int .u8 b.toNat).length = s.size := by rw [List.length_map, data_len]
    rw [List.take_append_of_le_length (by rw [hl]; exact Nat.le_refl _)]
    rw [List.take_of_length_le (by rw [hl]; exact Nat.le_refl _)]
    rfl
  refine ⟨_, _, _, Lib.bytesWorld_at_new w e s, ?_, ?_⟩
  · rw [bytesV_length, data_len]; exact hz
  · rw [bytesV_length, data_len, if_neg (by omega)]
    have := congrArg List.length hz
    rw [List.length_take, bytesV_length, data_len] at this
    simp at this ⊢
    omega
end

theorem below_bytesWorld (w : World) (e : TypeId) (s : ByteArray) : Below w.heap.size w (Lib.bytesWorld w e s) :=
  ⟨rfl, rfl, rfl, by rw [Lib.bytesWorld_size]; omega, fun k hk => Lib.bytesWorld_at_old w e s k hk⟩

/-- string(b) of octets that a slice reads as. -/
theorem run_string_of {P : Program} {w : World} {B : Nat} {A : Option Addr} {n c : Nat} {l : List UInt8} (h : SliceIn w B 1 A n c (bytesV l)) (src dst e : TypeId)
    (hs : P.underlying src = some (.slice e)) (he : P.underlying e = some (.int .u8)) (hd : P.underlying dst = some .string) :
    (convert src dst (.slice A n c)).run P w = .ok (.string ⟨l.toArray⟩) w := by
  obtain ⟨h1, _, _, h4⟩ := h
  rw [bytesV_length, Nat.mul_one] at h1
  have hmap : (l.map fun u : UInt8 => ((u.toNat : Nat) : Int)).map (fun n => UInt8.ofNat n.toNat) = l := by
    rw [List.map_map]
    conv => rhs; rw [← List.map_id l]
    apply List.map_congr_left
    intro u _
    simp
  rcases Nat.eq_zero_or_pos n with h0 | h0
  · subst h0
    have hl : l = [] := List.eq_nil_of_length_eq_zero h1
    subst hl
    rcases A with _ | a
    · exact run_convert_bytes_nil w src e hs he 0 c dst hd
    · rw [run_convert_bytes_string w src dst e _ 0 c hs he hd, run_bytesToString w a 0 c [] (by simp [loadCells, loadCellsFrom])]
      rfl
  · obtain ⟨b, off, rfl, _, hc⟩ := h4 h0
    rw [run_convert_bytes_arg w src e hs he b off n c (l.map fun u : UInt8 => ((u.toNat : Nat) : Int)) (by simp [h1]) (fun i hi => ?_) dst hd]
    · unfold strOfNums; rw [hmap]
    · have hil : i < l.length := by omega
      rw [hc i (byteV l[i]) (by rw [bytesV_get, List.getElem?_eq_getElem hil]; rfl)]
      simp [byteV, List.getD_eq_getElem?_getD, hil]

/-- What a slice type's element is: its zero value, its cells, its octets. -/
structure SliceTy (P : Program) (t e : TypeId) (z : Value) (size bytes : Nat) : Prop where
  ht : P.underlying t = some (.slice e)
  hi : (P.info? e).map (fun i => (i.zero, i.size, i.bytes)) = some (some z, size, bytes)
  hz : z.cells.size = size
  h0 : 0 < size

theorem grownBy_of_alloc {w w' : World} {o : Obj} {row : Option Nat} (h : (w.alloc o).grownBy w' row) : w.grownBy w' row :=
  (World.grownBy_alloc w o row).trans h

section
variable {P : Program} {w : World} {ops : Array Oper} {rest : List Oper} {o : Oper} {a : Act} {Q : Exit → Act → World → Prop}
variable {t e : TypeId} {z : Value} {size bytes : Nat}

/-- append(v, x..): elements laid in a new block just before. -/
theorem wpList_app (T : SliceTy P t e z size bytes) (hgd : o.guard = none) (s x : Operand) (ho : o.op = .call { callee := .builtin .append, args := #[s, x], argTypes := #[t, t] })
    (base : Nat) (v : Value) (n : Nat) (xs : List Value) (hs : a.eval s = v) (hown : w.ownsRow base e size v n xs)
    (m c : Nat) (news : List Value) (hx : a.eval x = .slice (some ⟨w.heap.size, 0, none⟩) m c) (hl : news.length = m * size) (h1 : ∀ u ∈ news, u.oneCell' = true)
    (hb : (n + m) * bytes ≤ 140737488355328) (hm : n + m ≤ maxLen) (hbase : base ≤ w.heap.size)
    (h : ∀ v' w', w'.ownsRow base e size v' (n + m) (xs ++ news) → w.grownBy w' v.ownBlock → wpList P ops Q rest (a.put o.dst v') w') :
    wpList P ops Q (o :: rest) a (w.alloc (.cells news.toArray e)) := by
  obtain ⟨i, hi, hz, hsz, hby⟩ := info_parts T.hi
  refine wpList_append_own (w.alloc (.cells news.toArray e)) hgd s x t ho base e i z size bytes T.ht hi hz hsz hby T.hz T.h0 v n xs hs (hown.alloc _) ⟨w.heap.size, 0, none⟩ m c news hx hl ?_ h1 hm hb (by simp; omega) ?_
  · intro j u hu
    rw [add_plain, Nat.zero_add]
    exact (RowAt.new w e news).cell hu
  · intro v' w' h2 h3 _
    exact h v' w' h2 (grownBy_of_alloc h3)

/-- The same, the new block's number spelt as the walk spells it. -/
theorem wpList_app2 (T : SliceTy P t e z size bytes) (hgd : o.guard = none) (s x : Operand) (ho : o.op = .call { callee := .builtin .append, args := #[s, x], argTypes := #[t, t] })
    (base : Nat) (v : Value) (n : Nat) (xs : List Value) (hs : a.eval s = v) (hown : w.ownsRow base e size v n xs)
    (m c : Nat) (news : List Value) (g : Nat) (hx : a.eval x = .slice (some ⟨g, 0, none⟩) m c) (hg : g = w.heap.size) (hl : news.length = m * size) (h1 : ∀ u ∈ news, u.oneCell' = true)
    (hb : (n + m) * bytes ≤ 140737488355328) (hm : n + m ≤ maxLen) (hbase : base ≤ w.heap.size)
    (h : ∀ v' w', w'.ownsRow base e size v' (n + m) (xs ++ news) → w.grownBy w' v.ownBlock → wpList P ops Q rest (a.put o.dst v') w') :
    wpList P ops Q (o :: rest) a (w.alloc (.cells news.toArray e)) := by
  subst hg
  exact wpList_app T hgd s x ho base v n xs hs hown m c news hx hl h1 hb hm hbase h

/-- append(v, y...): y reads as cells; nil and empty too. -/
theorem wpList_appS (T : SliceTy P t e z size bytes) (hgd : o.guard = none) (s x : Operand) (ho : o.op = .call { callee := .builtin .append, args := #[s, x], argTypes := #[t, t] })
    (base : Nat) (v : Value) (n : Nat) (xs : List Value) (hs : a.eval s = v) (hown : w.ownsRow base e size v n xs)
    (B : Nat) (A : Option Addr) (m c : Nat) (news : List Value) (hx : a.eval x = .slice A m c) (hr : SliceIn w B size A m c news) (h1 : ∀ u ∈ news, u.oneCell' = true)
    (hb : (n + m) * bytes ≤ 140737488355328) (hm : n + m ≤ maxLen) (hbase : base ≤ w.heap.size)
    (h : ∀ v' w', w'.ownsRow base e size v' (n + m) (xs ++ news) → w.grownBy w' v.ownBlock → wpList P ops Q rest (a.put o.dst v') w') :
    wpList P ops Q (o :: rest) a w := by
  obtain ⟨i, hi, hz, hsz, hby⟩ := info_parts T.hi
  rcases A with _ | ad
  · have hm0 : m = 0 := by
      rcases Nat.eq_zero_or_pos m with h0 | h0
      · exact h0
      · obtain ⟨b, off, h, _⟩ := hr.2.2.2 h0; cases h
    subst hm0
    have hn : news = [] := List.eq_nil_of_length_eq_zero (by simpa using hr.1)
    subst hn
    have hrun : (Builtin.append_ #[t, t] o.type #[v, .slice none 0 c]).run P w = .ok v w := by
      rcases hown.2 with ⟨rfl, rfl⟩ | ⟨g, cap, cur, rfl, _, _, hnc, _⟩
      · simp [Builtin.append_, run_underlying T.ht, sizeOf, typeInfo, hi, Builtin.lenOf, Builtin.firstCells]
      · simp [Builtin.append_, run_underlying T.ht, sizeOf, typeInfo, hi, Builtin.lenOf, Builtin.firstCells, hnc, storeCells]
    refine wpList_plain hgd fun K hK => ?_
    unfold Oper.wp execOp
    simp only [ho, resolve, invoke, builtin, Sem.run_bind, Sem.run_pure, Result.andThen_ok, List.map_toArray, List.map_cons, List.map_nil, hs, hx, hrun]
    exact hK _ _ (h v w (by simpa using hown) (World.grownBy.refl w _))
  · refine wpList_append_own w hgd s x t ho base e i z size bytes T.ht hi hz hsz hby T.hz T.h0 v n xs hs hown ad m c news hx hr.1 ?_ h1 hm hb hbase (fun v' w' h2 h3 _ => h v' w' h2 h3)
    intro j u hu
    rcases Nat.eq_zero_or_pos m with h0 | h0
    · subst h0
      have hn : news = [] := List.eq_nil_of_length_eq_zero (by simpa using hr.1)
      subst hn
      simp at hu
    · obtain ⟨b, off, h, _, hc⟩ := hr.2.2.2 h0
      injection h with h
      subst h
      rw [add_plain]
      exact hc j u hu
end

theorem u8_ty : SliceTy Tryz.prog 25 5 (.int .u8 0) 1 1 := ⟨Tryz.underlying25, by kernel_rfl, rfl, by decide⟩
theorem str_ty : SliceTy Tryz.prog 57 9 (.string ⟨#[]⟩) 1 16 := ⟨Tryz.underlying57, by kernel_rfl, rfl, by decide⟩
end Go.Proofs.YtniiadhhefgmcaaGreatDoor

/- A region that draws its order, walked in ONE order: what may be taken first is taken, the movers (calls, stores, new memory) come up one at a time. Condition: a property S of the world that holds behind every mover, and under which what is taken first always says the same. -/
namespace Go.Proofs.YtniiadhhefgmcaaGreatDoor
open Go Go.RowKit

/-- The operation at a place (written so that it comes out as it stands). -/
def nth {α : Type} : List α → Nat → Option α
  | [], _ => none
  | x :: _, 0 => some x
  | _ :: l, n + 1 => nth l n
theorem nth_eq {α : Type} (l : List α) (i : Nat) : nth l i = l[i]? := by
  induction l generalizing i with
  | nil => rfl
  | cons x l ih => cases i with
    | zero => rfl
    | succ n => exact ih n
theorem nth_ops {ops : Array Oper} {i : Nat} {o : Oper} (h : nth ops.toList i = some o) : ops[i]? = some o := by
  rw [nth_eq] at h; simpa using h

def planOk (md : Region.Mode) (ops : Array Oper) : List (Nat × Bool) → Array Bool → Bool
  | [], listed => decide (Region.ready md ops listed = [])
  | (i, true) :: r, listed => Region.free md ops listed i && ((Region.ready md ops listed).contains i && planOk md ops r (listed.setIfInBounds i true))
  | (i, false) :: r, listed => decide (Region.ready md ops listed = [i]) && planOk md ops r (listed.setIfInBounds i true)

def wpPlan (P : Program) (ops : Array Oper) (Q : Exit → Act → World → Prop) (S : World → Prop) : List (Nat × Bool) → Act → World → Prop
  | [], a, w => Q .normal a w
  | (i, true) :: r, a, w => ∃ o v, ops[i]? = some o ∧ YieldsIf P ops S o v a ∧ wpPlan P ops Q S r (a.put o.dst v) w
  | (i, false) :: r, a, w => wpOp P ops Q i (fun a' w' => S w' ∧ wpPlan P ops Q S r a' w') a w

section
variable {P : Program} {ops : Array Oper} {Q : Exit → Act → World → Prop} {S : World → Prop}

theorem plan_sound {md : Region.Mode} (hs : Region.noSelect ops = true) (hQ : ∀ c a d v w, Q (.panic c) (Act.put a d v) w → Q (.panic c) a w) :
    ∀ (plan : List (Nat × Bool)) (fuel : Nat) (listed : Array Bool) (a : Act) (w : World), plan.length ≤ fuel → planOk md ops plan listed = true → S w →
      wpPlan P ops Q S plan a w → wpAnyH P md ops Q S fuel listed a w := by
  intro plan
  induction plan with
  | nil =>
    intro fuel listed a w _ hok _ h
    exact wpAnyH_done (of_decide_eq_true hok) h fuel
  | cons x r ih =>
    intro fuel listed a w hf hok hS h
    obtain ⟨i, b⟩ := x
    cases fuel with
    | zero => simp at hf
    | succ fuel =>
      have hf' : r.length ≤ fuel := by simpa using hf
      cases b with
      | true =>
        simp only [planOk, Bool.and_eq_true] at hok
        obtain ⟨h1, h2, h3⟩ := hok
        obtain ⟨o, v, ho, hy, hr⟩ := h
        exact wpAnyH_take ho hs h1 h2 (fun c a w => hQ c a _ _ w) hy hS (ih fuel _ _ w hf' h3 hS hr)
      | false =>
        simp only [planOk, Bool.and_eq_true, decide_eq_true_eq] at hok
        obtain ⟨h1, h3⟩ := hok
        refine wpAnyH_all h1 (by simp) fun j hj => ?_
        obtain rfl : j = i := by simpa using hj
        exact wpOp_mono (fun a' w' ⟨hS', h'⟩ => ⟨hS', ih fuel _ a' w' hf' h3 hS' h'⟩) h

theorem noPanic_hQ {Q : Exit → Act → World → Prop} : ∀ c a d v w, NoPanic Q (.panic c) (Act.put a d v) w → NoPanic Q (.panic c) a w := fun _ _ _ _ _ h => (h : False).elim

/-- The region, by a plan. -/
theorem wp_region_plan {id : Nat} {a : Act} {w : World} (S : World → Prop) (plan : List (Nat × Bool)) (hm : P.follows .mixedOrders = true)
    (hs : Region.noSelect ops = true) (hl : plan.length = ops.size) (hok : planOk .any ops plan (Array.replicate ops.size false) = true) (hS : S w.drew)
    (h : ∀ w1, Hid (S w1) → wpPlan P ops (NoPanic Q) S plan a w1) : (Code.region id ops true).wp P Q a w :=
  wp_region_noPanic (wp_region_held hm (plan_sound hs noPanic_hQ plan _ _ a _ (by omega) hok hS (h _ (Lib.hid hS))))

theorem plan_done {a : Act} {w : World} (h : Q .normal a w) : wpPlan P ops (NoPanic Q) S [] a w := NoPanic.normal h
/-- A closed string's length. -/
theorem mk_size (a : Array UInt8) : (ByteArray.mk a).size = a.size := rfl
/-- Taken first: what it leaves in every world that meets S. -/
theorem plan_take {i : Nat} {r : List (Nat × Bool)} {o : Oper} {v : Value} {a : Act} {w : World} (ho : nth ops.toList i = some o) (hw : Region.wanted o (yielded ops a.tmps) = true)
    (hv : ∀ w, S w → (execOp a.eval o).run P w = .ok (.value v) w) (h : wpPlan P ops Q S r (a.put o.dst v) w) : wpPlan P ops Q S ((i, true) :: r) a w := ⟨o, v, nth_ops ho, .inl ⟨hw, hv⟩, h⟩
/-- A mover: its own goal, behind a letter K. -/
theorem plan_move {i : Nat} {r : List (Nat × Bool)} {o : Oper} {a : Act} {w : World} (ho : nth ops.toList i = some o) (hw : Region.wanted o (yielded ops a.tmps) = true)
    (h : ∀ K : Act → World → Prop, Shut (∀ a w, S w → (Hid (S w) → wpPlan P ops Q S r a w) → K a w) → Oper.wp P o a w K Q) : wpPlan P ops Q S ((i, false) :: r) a w := by
  unfold wpPlan wpOp
  simp only [nth_ops ho, hw, if_true]
  exact .inl (h _ fun a w hS hr => ⟨hS, hr (Lib.hid hS)⟩)
end
end Go.Proofs.YtniiadhhefgmcaaGreatDoor

/- A plain region, walked operation by operation: what is taken, what its guard leaves out. No condition. -/
namespace Go.Proofs.YtniiadhhefgmcaaGreatDoor
open Go Go.RowKit
theorem wanted_is {ops : Array Oper} {o o' : Oper} {j d : Nat} {c b : Bool} {tmps : Array Value} (hg : o.guard = some (j, c)) (ho : nth ops.toList j = some o') (hd : o'.dst = some d) (hv : nth tmps.toList d = some (.bool b)) : Region.wanted o (yielded ops tmps) = (b == c) := by
  rw [nth_eq] at ho hv
  have h1 : ops[j]? = some o' := by simpa using ho
  have h2 : tmps[d]? = some (.bool b) := by simpa using hv
  unfold Region.wanted yielded
  rw [hg]
  simp only [h1, Option.bind_some, hd, h2]
  cases b <;> cases c <;> rfl
theorem wanted_un {ops : Array Oper} {o : Oper} {tmps : Array Value} (hg : o.guard = none) : Region.wanted o (yielded ops tmps) = true := by
  unfold Region.wanted
  rw [hg]
theorem wanted_yes {ops : Array Oper} {o o' : Oper} {j d : Nat} {c : Bool} {tmps : Array Value} (hg : o.guard = some (j, c)) (ho : nth ops.toList j = some o') (hd : o'.dst = some d) (hv : nth tmps.toList d = some (.bool c)) : Region.wanted o (yielded ops tmps) = true := by
  rw [wanted_is hg ho hd hv]; cases c <;> rfl
/-- The rest of a region's run, kept shut. -/
structure WL (P : Program) (ops : Array Oper) (Q : Exit → Act → World → Prop) (l : List Oper) (a : Act) (w : World) : Prop where
  out : wpList P ops Q l a w
section
variable {P : Program} {ops : Array Oper} {Q : Exit → Act → World → Prop}
end
end Go.Proofs.YtniiadhhefgmcaaGreatDoor

/- A region that draws its order, walked by a tree of orders: where more than one mover may come next, each of them is walked. Condition: as in the text on plans. -/
namespace Go.Proofs.YtniiadhhefgmcaaGreatDoor
open Go Go.RowKit

inductive PT where
  | done
  | take (i : Nat) (r : PT)
  | node (f : PT)
  | fork (i : Nat) (r : PT) (m : PT)
  | stop
def PT.heads : PT → List Nat
  | .fork i _ m => i :: m.heads
  | _ => []
def PT.depth : PT → Nat
  | .done => 0
  | .take _ r => r.depth + 1
  | .node f => f.depth
  | .fork _ r m => max (r.depth + 1) m.depth
  | .stop => 0
def PT.isFork : PT → Bool
  | .fork _ _ _ => true
  | .stop => true
  | _ => false
def treeOk (md : Region.Mode) (ops : Array Oper) : PT → Array Bool → Bool
  | .done, l => decide (Region.ready md ops l = [])
  | .take i r, l => !r.isFork && (Region.free md ops l i && ((Region.ready md ops l).contains i && treeOk md ops r (l.setIfInBounds i true)))
  | .node f, l => f.isFork && (decide (Region.ready md ops l = f.heads) && (!f.heads.isEmpty && treeOk md ops f l))
  | .fork i r m, l => !r.isFork && (m.isFork && (treeOk md ops r (l.setIfInBounds i true) && treeOk md ops m l))
  | .stop, _ => true
def wpT (P : Program) (ops : Array Oper) (Q : Exit → Act → World → Prop) (S : World → Prop) : PT → Act → World → Prop
  | .done, a, w => Q .normal a w
  | .take i r, a, w => ∃ o v, ops[i]? = some o ∧ YieldsIf P ops S o v a ∧ wpT P ops Q S r (a.put o.dst v) w
  | .node f, a, w => wpT P ops Q S f a w
  | .fork i r m, a, w => wpOp P ops Q i (fun a' w' => S w' ∧ wpT P ops Q S r a' w') a w ∧ wpT P ops Q S m a w
  | .stop, _, _ => True

section
variable {P : Program} {ops : Array Oper} {Q : Exit → Act → World → Prop} {S : World → Prop}
theorem tree_sound {md : Region.Mode} (hs : Region.noSelect ops = true) (hQ : ∀ c a d v w, Q (.panic c) (Act.put a d v) w → Q (.panic c) a w) :
    ∀ (p : PT), (p.isFork = false → ∀ (fuel : Nat) (l : Array Bool) (a : Act) (w : World), p.depth ≤ fuel → treeOk md ops p l = true → S w → wpT P ops Q S p a w → wpAnyH P md ops Q S fuel l a w) ∧
      (p.isFork = true → ∀ (fuel : Nat) (l : Array Bool) (a : Act) (w : World), p.depth ≤ fuel + 1 → treeOk md ops p l = true → S w → wpT P ops Q S p a w → ∀ j ∈ p.heads, wpOp P ops Q j (fun a' w' => S w' ∧ wpAnyH P md ops Q S fuel (l.setIfInBounds j true) a' w') a w) := by
  intro p
  induction p with
  | done =>
    refine ⟨fun _ fuel l a w _ hok _ h => wpAnyH_done (of_decide_eq_true hok) h fuel, fun h => by cases h⟩
  | take i r ih =>
    refine ⟨fun _ fuel l a w hf hok hS h => ?_, fun h => by cases h⟩
    simp only [treeOk, Bool.and_eq_true, Bool.not_eq_true'] at hok
    obtain ⟨h0, h1, h2, h3⟩ := hok
    cases fuel with
    | zero => simp [PT.depth] at hf
    | succ fuel =>
      have hf' : r.depth ≤ fuel := by simpa [PT.depth] using hf
      obtain ⟨o, v, ho, hy, hr⟩ := h
      exact wpAnyH_take ho hs h1 h2 (fun c a w => hQ c a _ _ w) hy hS (ih.1 h0 fuel _ _ w hf' h3 hS hr)
  | node f ih =>
    refine ⟨fun _ fuel l a w hf hok hS h => ?_, fun h => by cases h⟩
    simp only [treeOk, Bool.and_eq_true, decide_eq_true_eq, Bool.not_eq_true'] at hok
    obtain ⟨h0, h1, h2, h3⟩ := hok
    cases fuel with
    | zero =>
      cases f with
      | fork i r m => simp [PT.depth] at hf
      | stop => simp [PT.heads] at h2
      | _ => cases h0
    | succ fuel =>
      refine wpAnyH_all h1 (by intro hh; rw [hh] at h2; simp at h2) fun j hj => ?_
      exact wpOp_mono (fun a' w' h => h) (ih.2 h0 fuel l a w hf h3 hS h j hj)
  | fork i r m ihr ihm =>
    refine ⟨(fun h => by cases h), fun _ fuel l a w hf hok hS h j hj => ?_⟩
    simp only [treeOk, Bool.and_eq_true, Bool.not_eq_true'] at hok
    obtain ⟨h0, h1, h2, h3⟩ := hok
    simp only [PT.depth] at hf
    simp only [PT.heads, List.mem_cons] at hj
    rcases hj with rfl | hj
    · exact wpOp_mono (fun a' w' ⟨hS', h'⟩ => ⟨hS', ihr.1 h0 fuel _ a' w' (by omega) h2 hS' h'⟩) h.1
    · exact ihm.2 h1 fuel l a w (by omega) h3 hS h.2 j hj
  | stop =>
    refine ⟨(fun h => by cases h), fun _ fuel l a w _ _ _ _ j hj => ?_⟩
    simp [PT.heads] at hj

/-- The region, by a tree. -/
theorem wp_region_tree {id : Nat} {a : Act} {w : World} (S : World → Prop) (p : PT) (hm : P.follows .mixedOrders = true)
    (hs : Region.noSelect ops = true) (hl : p.depth ≤ ops.size) (hf : p.isFork = false) (hok : treeOk .any ops p (Array.replicate ops.size false) = true) (hS : S w.drew)
    (h : ∀ w1, Hid (S w1) → wpT P ops (NoPanic Q) S p a w1) : (Code.region id ops true).wp P Q a w :=
  wp_region_noPanic (wp_region_held hm ((tree_sound hs noPanic_hQ p).1 hf _ _ a _ hl hok hS (h _ (Lib.hid hS))))

theorem tree_done {a : Act} {w : World} (h : Q .normal a w) : wpT P ops (NoPanic Q) S .done a w := NoPanic.normal h
theorem tree_stop {a : Act} {w : World} : wpT P ops Q S .stop a w := True.intro
theorem tree_take {i : Nat} {r : PT} {o : Oper} {v : Value} {a : Act} {w : World} (ho : nth ops.toList i = some o) (hw : Region.wanted o (yielded ops a.tmps) = true)
    (hv : ∀ w, S w → (execOp a.eval o).run P w = .ok (.value v) w) (h : wpT P ops Q S r (a.put o.dst v) w) : wpT P ops Q S (.take i r) a w := ⟨o, v, nth_ops ho, .inl ⟨hw, hv⟩, h⟩
theorem tree_move {i : Nat} {r m : PT} {o : Oper} {a : Act} {w : World} (ho : nth ops.toList i = some o) (hw : Region.wanted o (yielded ops a.tmps) = true)
    (h : ∀ K : Act → World → Prop, Shut (∀ a w, S w → (Hid (S w) → wpT P ops Q S r a w) → K a w) → Oper.wp P o a w K Q) (hmore : wpT P ops Q S m a w) : wpT P ops Q S (.fork i r m) a w := by
  refine ⟨?_, hmore⟩
  unfold wpOp
  simp only [nth_ops ho, hw, if_true]
  exact .inl (h _ fun a w hS hr => ⟨hS, hr (Lib.hid hS)⟩)
theorem tree_node {f : PT} {a : Act} {w : World} (h : wpT P ops Q S f a w) : wpT P ops Q S (.node f) a w := h
end
/-- The region, by a tree, at its own first world. -/
theorem wp_region_tree0 {P : Program} {ops : Array Oper} {Q : Exit → Act → World → Prop} {id : Nat} {a : Act} {w : World} (S : World → Prop) (p : PT) (hm : P.follows .mixedOrders = true)
    (hs : Region.noSelect ops = true) (hl : p.depth ≤ ops.size) (hf : p.isFork = false) (hok : treeOk .any ops p (Array.replicate ops.size false) = true) (hS : S w.drew)
    (h : Hid (S w.drew) → wpT P ops (NoPanic Q) S p a w.drew) : (Code.region id ops true).wp P Q a w :=
  wp_region_noPanic (wp_region_held hm ((tree_sound hs noPanic_hQ p).1 hf _ _ a _ hl hok hS (h (Lib.hid hS))))
end Go.Proofs.YtniiadhhefgmcaaGreatDoor

/- Appends among the movers of a drawn region. Condition: the row is the call's own. -/
namespace Go.Proofs.YtniiadhhefgmcaaGreatDoor
open Go.RowKit
end Go.Proofs.YtniiadhhefgmcaaGreatDoor

/- A struct or an array stored whole into a block known from its head: in a plain region, and as a mover of a drawn one. Condition: the block's cells are known and may be written. -/
namespace Go.Proofs.YtniiadhhefgmcaaGreatDoor
open Go.RowKit

/-- Nothing but block g may have changed. -/
structure Only (g : Nat) (w w' : World) : Prop where
  os : w'.os = w.os
  tape : w'.tape = w.tape
  output : w'.output = w.output
  size : w'.heap.size = w.heap.size
  block : ∀ k, k ≠ g → w'.heap[k]? = w.heap[k]?
theorem Only.refl (g : Nat) (w : World) : Only g w w := ⟨rfl, rfl, rfl, rfl, fun _ _ => rfl⟩
theorem Only.trans {g : Nat} {a b c : World} (h : Only g a b) (k : Only g b c) : Only g a c :=
  ⟨k.os.trans h.os, k.tape.trans h.tape, k.output.trans h.output, k.size.trans h.size, fun i hi => (k.block i hi).trans (h.block i hi)⟩
theorem Only.setCell (g o : Nat) (w : World) (v : Value) : Only g w (w.setCell ⟨g, o, none⟩ v) :=
  ⟨rfl, rfl, rfl, by simp, fun k hk => Below.heap_setCell w ⟨g, o, none⟩ v k hk⟩
theorem Only.setCells (g : Nat) : ∀ (vs : List Value) (o : Nat) (w : World), Only g w (w.setCells g o vs)
  | [], _, w => Only.refl g w
  | v :: r, o, w => (Only.setCell g o w v).trans (Only.setCells g r (o + 1) _)
theorem Only.below {g B : Nat} {a w w' : World} (h : Only g w w') (hb : Below B a w) (hB : B ≤ g) : Below B a w' :=
  ⟨h.os.trans hb.os, h.tape.trans hb.tape, h.output.trans hb.output, by have := h.size; have := hb.size; omega, fun k hk => (h.block k (by omega)).trans (hb.block k hk)⟩
theorem RowAt.only {g g' : Nat} {e : TypeId} {cs : List Value} {w w' : World} (hr : RowAt w g e cs) (h : Only g' w w') (hn : g ≠ g') : RowAt w' g e cs := hr.keep (h.block g hn)
theorem SliceIn.only {w w' : World} {B size n c g : Nat} {A : Option Addr} {xs : List Value} (hs : SliceIn w B size A n c xs) (h : Only g w w') (hB : B ≤ g) : SliceIn w' B size A n c xs :=
  hs.keep fun p hp => World.cell?_of_block (h.block p.block (by omega))

theorem row_sets {g : Nat} {e : TypeId} : ∀ (vs olds pre : List Value) (w : World), RowAt w g e (pre ++ olds) → olds.length = vs.length → RowAt (w.setCells g pre.length vs) g e (pre ++ vs)
  | [], olds, pre, w, h, hl => by
    obtain rfl : olds = [] := List.eq_nil_of_length_eq_zero hl
    exact h
  | v :: r, [], pre, w, h, hl => by simp at hl
  | v :: r, o :: olds, pre, w, h, hl => by
    have h1 := h.set_ (j := pre.length) (by simp) v
    have e1 : (pre ++ o :: olds).set pre.length v = (pre ++ [v]) ++ olds := by simp
    rw [e1] at h1
    have h2 := row_sets r olds (pre ++ [v]) _ h1 (by simpa using hl)
    have e2 : (pre ++ [v]).length = pre.length + 1 := by simp
    rw [e2] at h2
    have e3 : (pre ++ [v]) ++ r = pre ++ v :: r := by simp
    rw [e3] at h2
    exact h2
theorem row_there {g : Nat} {e : TypeId} {cs : List Value} {w : World} (h : RowAt w g e cs) : w.there g 0 cs.length := fun j hj => by
  rw [Nat.zero_add]
  exact ⟨by rw [h.cell (j := j) (List.getElem?_eq_getElem hj)]; rfl, h.frozen hj⟩

section
variable {P : Program} {ops : Array Oper} {Q : Exit → Act → World → Prop}
theorem wp_store_row {op : Oper} {a : Act} {w : World} {K : Act → World → Prop} (ty : TypeId) (x y : Operand) (ho : op.op = .store ty x y)
    (g : Nat) (e : TypeId) (cs olds : List Value) (hx : a.eval x = .pointer (some ⟨g, 0, none⟩)) (hy : a.eval y = .agg cs.toArray) (hr : RowAt w g e olds) (hl : olds.length = cs.length)
    (hi : (P.info? ty).map (·.size) = some cs.length) (h1 : ∀ v ∈ cs, v.oneCell' = true)
    (h : ∀ w', RowAt w' g e cs → Only g w w' → K (a.put op.dst undef) w') : op.wp P a w K Q := by
  refine wp_store_mid ty x y ho g 0 cs.toArray hx hy (by simpa [hl] using row_there hr) (by simpa using hi) (all_oneCell_toArray h1) ?_
  rw [List.toList_toArray]
  exact h _ (row_sets cs olds [] w hr hl) (Only.setCells g cs 0 w)
/-- In a plain region. -/
theorem wpList_store_row {rest : List Oper} {op : Oper} {a : Act} {w : World} (hgd : op.guard = none) (ty : TypeId) (x y : Operand) (ho : op.op = .store ty x y)
    (g : Nat) (e : TypeId) (cs olds : List Value) (hx : a.eval x = .pointer (some ⟨g, 0, none⟩)) (hy : a.eval y = .agg cs.toArray) (hr : RowAt w g e olds) (hl : olds.length = cs.length)
    (hi : (P.info? ty).map (·.size) = some cs.length) (h1 : ∀ v ∈ cs, v.oneCell' = true)
    (h : ∀ w', RowAt w' g e cs → Only g w w' → wpList P ops Q rest (a.put op.dst undef) w') : wpList P ops Q (op :: rest) a w :=
  wpList_plain hgd fun _ hK => wp_store_row ty x y ho g e cs olds hx hy hr hl hi h1 fun w' h2 h3 => hK _ _ (h w' h2 h3)
end
end Go.Proofs.YtniiadhhefgmcaaGreatDoor

/- An append onto a slice that is not nil is not nil. Condition: the row is the call's own. -/
namespace Go.Proofs.YtniiadhhefgmcaaGreatDoor
open Go.RowKit
end Go.Proofs.YtniiadhhefgmcaaGreatDoor

