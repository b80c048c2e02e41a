/- Memory: a slice that reads as a list, a row that is known from its head on, appends onto rows of the call's own, octets turned into strings and back. Conditions: as each states. -/
import Derived.Test.YtpmidmdodjgeeaaDoorBase
import Derived.Below
import Derived.Laws.OwnMore
import Derived.Laws.BytesArg
import Derived.Lib.ConvBytes
import Derived.Deep.AppendLies
import Derived.Maps.AppendAt
import Derived.OwnWalk
import Derived.Lib.AppendStr
namespace Go.Proofs.YtpmidmdodjgeeaaDoor
open Go.RowKit

def byteV (u : UInt8) : Value := .int .u8 u.toNat
def bytesV (l : List UInt8) : List Value := l.map byteV
theorem bytesV_length (l : List UInt8) : (bytesV l).length = l.length := by simp [bytesV]
theorem bytesV_append (a b : List UInt8) : bytesV (a ++ b) = bytesV a ++ bytesV b := by simp [bytesV]
theorem bytesV_get (l : List UInt8) (j : Nat) : (bytesV l)[j]? = l[j]?.map byteV := by simp [bytesV]
theorem bytesV_one (l : List UInt8) : ∀ u ∈ bytesV l, u.oneCell' = true := by
  intro u hu
  obtain ⟨c, _, rfl⟩ := List.mem_map.1 hu
  rfl

theorem one1 (x : Value) (h : x.oneCell' = true) : ∀ u ∈ [x], u.oneCell' = true := by
  intro u hu; rw [List.mem_singleton.1 hu]; exact h

theorem add_plain (b off j : Nat) : (⟨b, off, none⟩ : Addr).add j = ⟨b, off + j, none⟩ := by unfold Addr.add; split <;> simp_all

theorem below_step {w W W' : World} (h : Below w.heap.size w W) (hb : Below W.heap.size W W') : Below w.heap.size w W' := h.trans (hb.mono h.size)

/-- The slice value reads as the cells xs, n elements of so many cells; they lie below block B. -/
def SliceIn (w : World) (B size : Nat) (A : Option Addr) (n c : Nat) (xs : List Value) : Prop :=
  xs.length = n * size ∧ n ≤ c ∧ c ≤ maxLen ∧ (0 < n → ∃ b off, A = some ⟨b, off, none⟩ ∧ b < B ∧ ∀ j u, xs[j]? = some u → w.cell? ⟨b, off + j, none⟩ = some u)

section
variable {w w' : World} {B B' size n c : Nat} {A : Option Addr} {xs : List Value}
theorem SliceIn.none_ {c : Nat} (h : c ≤ maxLen) : SliceIn w B size A 0 c [] := ⟨by simp, Nat.zero_le _, h, fun h => absurd h (by omega)⟩
theorem SliceIn.keep (h : SliceIn w B size A n c xs) (hk : ∀ p : Addr, p.block < B → w'.cell? p = w.cell? p) : SliceIn w' B size A n c xs :=
  ⟨h.1, h.2.1, h.2.2.1, fun hn => by
    obtain ⟨b, off, e, hb, hc⟩ := h.2.2.2 hn
    exact ⟨b, off, e, hb, fun j u hu => (hk _ hb).trans (hc j u hu)⟩⟩
theorem SliceIn.more (h : SliceIn w B size A n c xs) (hB : B ≤ B') : SliceIn w B' size A n c xs :=
  ⟨h.1, h.2.1, h.2.2.1, fun hn => by
    obtain ⟨b, off, e, hb, hc⟩ := h.2.2.2 hn
    exact ⟨b, off, e, by omega, hc⟩⟩
theorem SliceIn.below (h : SliceIn w B size A n c xs) (hb : Below B w w') : SliceIn w' B size A n c xs := h.keep fun _ hp => hb.cell hp
theorem SliceIn.drewN (h : SliceIn w B size A n c xs) (k : Nat) : SliceIn (w.drewN k) B size A n c xs := h
theorem SliceIn.alloc (h : SliceIn w B size A n c xs) (hB : B ≤ w.heap.size) (o : Obj) : SliceIn (w.alloc o) B size A n c xs := h.keep fun p hp => World.cell?_alloc_lt w o p (by omega)
theorem SliceIn.setCell (h : SliceIn w B size A n c xs) {p : Addr} (hB : B ≤ p.block) (u : Value) : SliceIn (w.setCell p u) B size A n c xs :=
  h.keep fun q hq => World.cell?_setCell_other w p q u (fun e => by subst e; omega)
theorem SliceIn.grown (h : SliceIn w B size A n c xs) {row : Option Nat} (hg : w.grownBy w' row) (hB : B ≤ w.heap.size) (hr : ∀ g, row = some g → B ≤ g) : SliceIn w' B size A n c xs :=
  h.keep fun p hp => World.cell?_of_block (hg.block p.block (by omega) (fun e => by have := hr _ e.symm; omega))
/-- x[a:b] of such a slice. -/
theorem SliceIn.sub (h : SliceIn w B size A n c xs) {a b : Nat} (hab : a ≤ b) (hb : b ≤ n) (A' : Option Addr) (hA : a < b → A' = A.map (·.add (a * size))) :
    SliceIn w B size A' (b - a) (c - a) ((xs.drop (a * size)).take ((b - a) * size)) := by
  obtain ⟨h1, h2, h3, h4⟩ := h
  refine ⟨?_, by omega, by omega, fun hn => ?_⟩
  · rw [List.length_take, List.length_drop, h1, ← Nat.sub_mul]
    exact Nat.min_eq_left (Nat.mul_le_mul_right _ (by omega))
  · obtain ⟨k, off, rfl, hk, hc⟩ := h4 (by omega)
    rw [hA (by omega)]
    refine ⟨k, off + a * size, by simp [add_plain], hk, fun j u hu => ?_⟩
    rw [List.getElem?_take] at hu
    split at hu
    · rw [List.getElem?_drop] at hu
      have := hc _ u hu
      rw [← Nat.add_assoc] at this
      exact this
    · cases hu
theorem SliceIn.of_own {base : Nat} {e : TypeId} (h : w.ownsRow base e size (.slice A n c) n xs) : SliceIn w w.heap.size size A n c xs := by
  have h1 := h.1
  rcases h.2 with ⟨h2, h3⟩ | ⟨g, cap, cur, hv, hb, hh, hn, hm, hs, ht⟩
  · injection h2 with e1 e2 e3
    subst e1 e2 e3
    exact ⟨h1, Nat.le_refl _, by simp [maxLen], fun h => absurd h (by omega)⟩
  · injection hv with e1 e2 e3
    subst e1 e3
    refine ⟨h1, hn, hm, fun _ => ⟨g, 0, rfl, (Array.getElem?_eq_some_iff.1 hh).1, fun j u hu => ?_⟩⟩
    have := h.cells (g := g) rfl j u hu
    rwa [add_plain] at this
end

theorem own_below {w w' : World} {base : Nat} {e : TypeId} {size n : Nat} {v : Value} {xs : List Value} (h : w.ownsRow base e size v n xs) (hb : Below w.heap.size w w') : w'.ownsRow base e size v n xs := by
  refine ⟨h.1, ?_⟩
  rcases h.2 with h2 | ⟨g, cap, cur, hv, hg, hh, r⟩
  · exact .inl h2
  · exact .inr ⟨g, cap, cur, hv, hg, (hb.block g (Array.getElem?_eq_some_iff.1 hh).1).trans hh, r⟩
theorem own_slice {w : World} {base : Nat} {e : TypeId} {size n : Nat} {v : Value} {xs : List Value} (h : w.ownsRow base e size v n xs) :
    ∃ A c, v = .slice A n c ∧ SliceIn w w.heap.size size A n c xs := by
  rcases h.2 with ⟨h2, h3⟩ | ⟨g, cap, cur, hv, r⟩
  · subst h2 h3
    exact ⟨none, 0, rfl, SliceIn.of_own h⟩
  · subst hv
    exact ⟨_, _, rfl, SliceIn.of_own h⟩

/-- Block g holds the cells cs from its head on, none of these frozen. -/
def RowAt (w : World) (g : Nat) (e : TypeId) (cs : List Value) : Prop :=
  ∃ cur lo hi, w.heap[g]? = some (.cells cur e (lo, hi)) ∧ cur.toList.take cs.length = cs ∧ cs.length ≤ lo + if hi ≤ lo then cs.length else 0

section
variable {w w' : World} {g : Nat} {e : TypeId} {cs : List Value}
theorem RowAt.lt (h : RowAt w g e cs) : g < w.heap.size := by
  obtain ⟨cur, lo, hi, hh, _⟩ := h
  exact (Array.getElem?_eq_some_iff.1 hh).1
theorem RowAt.cell (h : RowAt w g e cs) {j : Nat} {u : Value} (hu : cs[j]? = some u) : w.cell? ⟨g, j, none⟩ = some u := by
  obtain ⟨cur, lo, hi, hh, ht, _⟩ := h
  rw [cell_of_row w g j cur e (lo, hi) hh]
  rw [← ht, List.getElem?_take] at hu
  split at hu
  · simpa using hu
  · cases hu
theorem RowAt.frozen (h : RowAt w g e cs) {j : Nat} (hj : j < cs.length) : w.frozen? ⟨g, j, none⟩ = false := by
  obtain ⟨cur, lo, hi, hh, _, hf⟩ := h
  simp only [World.frozen?, hh]
  split at hf <;> simp <;> omega
theorem RowAt.set_ (h : RowAt w g e cs) {j : Nat} (_hj : j < cs.length) (u : Value) : RowAt (w.setCell ⟨g, j, none⟩ u) g e (cs.set j u) := by
  obtain ⟨cur, lo, hi, hh, ht, hf⟩ := h
  refine ⟨cur.setIfInBounds j u, lo, hi, ?_, ?_, by simpa using hf⟩
  · simp [World.setCell, Array.getElem?_modify, hh]
  · rw [List.length_set, Array.toList_setIfInBounds, List.take_set, ht]
theorem RowAt.keep (h : RowAt w g e cs) (hk : w'.heap[g]? = w.heap[g]?) : RowAt w' g e cs := by
  obtain ⟨cur, lo, hi, hh, r⟩ := h
  exact ⟨cur, lo, hi, hk.trans hh, r⟩
theorem RowAt.below {B : Nat} (h : RowAt w g e cs) (hb : Below B w w') (hg : g < B) : RowAt w' g e cs := h.keep (hb.block g hg)
theorem RowAt.alloc (h : RowAt w g e cs) (o : Obj) : RowAt (w.alloc o) g e cs := h.keep (Below.heap_alloc w o g h.lt)
theorem RowAt.far (h : RowAt w g e cs) {p : Addr} (hp : g ≠ p.block) (u : Value) : RowAt (w.setCell p u) g e cs := h.keep (Below.heap_setCell w p u g hp)
theorem RowAt.drewN (h : RowAt w g e cs) (n : Nat) : RowAt (w.drewN n) g e cs := h
theorem RowAt.slice (h : RowAt w g e cs) {size n c : Nat} (hs : cs.length = n * size) (hc : n ≤ c) (hm : c ≤ maxLen) : SliceIn w w.heap.size size (some ⟨g, 0, none⟩) n c cs :=
  ⟨hs, hc, hm, fun _ => ⟨g, 0, rfl, h.lt, fun j u hu => by rw [Nat.zero_add]; exact h.cell hu⟩⟩
theorem RowAt.new (w : World) (e : TypeId) (cs : List Value) : RowAt (w.alloc (.cells cs.toArray e)) w.heap.size e cs :=
  ⟨cs.toArray, 0, 0, heap_alloc_new w _, by simp, by simp⟩
theorem RowAt.bytes (w : World) (e : TypeId) (s : ByteArray) : RowAt (Lib.bytesWorld w e s) w.heap.size e (bytesV s.data.toList) := by
  have hz : (Lib.bytesCells w e s).toList.take s.size = bytesV s.data.toList := by
    simp only [Lib.bytesCells, Array.toList_append, Array.toList_map]
    have hl : (s.data.toList.map fun b : UInt8 => Value.int .u8 b.toNat).length = s.size := by rw [List.length_map, data_len]
    rw [List.take_append_of_le_length (by rw [hl]; exact Nat.le_refl _)]
    rw [List.take_of_length_le (by rw [hl]; exact Nat.le_refl _)]
    rfl
  refine ⟨_, _, _, Lib.bytesWorld_at_new w e s, ?_, ?_⟩
  · rw [bytesV_length, data_len]; exact hz
  · rw [bytesV_length, data_len, if_neg (by omega)]
    have := congrArg List.length hz
    rw [List.length_take, bytesV_length, data_len] at this
    simp at this ⊢
    omega
end

theorem below_bytesWorld (w : World) (e : TypeId) (s : ByteArray) : Below w.heap.size w (Lib.bytesWorld w e s) :=
  ⟨rfl, rfl, rfl, by rw [Lib.bytesWorld_size]; omega, fun k hk => Lib.bytesWorld_at_old w e s k hk⟩

/-- string(b) of octets that a slice reads as. -/
theorem run_string_of {P : Program} {w : World} {B : Nat} {A : Option Addr} {n c : Nat} {l : List UInt8} (h : SliceIn w B 1 A n c (bytesV l)) (src dst e : TypeId)
    (hs : P.underlying src = some (.slice e)) (he : P.underlying e = some (.int .u8)) (hd : P.underlying dst = some .string) :
    (convert src dst (.slice A n c)).run P w = .ok (.string ⟨l.toArray⟩) w := by
  obtain ⟨h1, _, _, h4⟩ := h
  rw [bytesV_length, Nat.mul_one] at h1
  have hmap : (l.map fun u : UInt8 => ((u.toNat : Nat) : Int)).map (fun n => UInt8.ofNat n.toNat) = l := by
    rw [List.map_map]
    conv => rhs; rw [← List.map_id l]
    apply List.map_congr_left
    intro u _
    simp
  rcases Nat.eq_zero_or_pos n with h0 | h0
  · subst h0
    have hl : l = [] := List.eq_nil_of_length_eq_zero h1
    subst hl
    rcases A with _ | a
    · exact run_convert_bytes_nil w src e hs he 0 c dst hd
    · rw [run_convert_bytes_string w src dst e _ 0 c hs he hd, run_bytesToString w a 0 c [] (by simp [loadCells, loadCellsFrom])]
      rfl
  · obtain ⟨b, off, rfl, _, hc⟩ := h4 h0
    rw [run_convert_bytes_arg w src e hs he b off n c (l.map fun u : UInt8 => ((u.toNat : Nat) : Int)) (by simp [h1]) (fun i hi => ?_) dst hd]
    · unfold strOfNums; rw [hmap]
    · have hil : i < l.length := by omega
      rw [hc i (byteV l[i]) (by rw [bytesV_get, List.getElem?_eq_getElem hil]; rfl)]
      simp [byteV, List.getD_eq_getElem?_getD, hil]

/-- What a slice type's element is: its zero value, its cells, its octets. -/
structure SliceTy (P : Program) (t e : TypeId) (z : Value) (size bytes : Nat) : Prop where
  ht : P.underlying t = some (.slice e)
  hi : (P.info? e).map (fun i => (i.zero, i.size, i.bytes)) = some (some z, size, bytes)
  hz : z.cells.size = size
  h0 : 0 < size

theorem grownBy_of_alloc {w w' : World} {o : Obj} {row : Option Nat} (h : (w.alloc o).grownBy w' row) : w.grownBy w' row :=
  (World.grownBy_alloc w o row).trans h

section
variable {P : Program} {w : World} {ops : Array Oper} {rest : List Oper} {o : Oper} {a : Act} {Q : Exit → Act → World → Prop}
variable {t e : TypeId} {z : Value} {size bytes : Nat}

/-- append(v, x..): elements laid in a new block just before. -/
theorem wpList_app (T : SliceTy P t e z size bytes) (hgd : o.guard = none) (s x : Operand) (ho : o.op = .call { callee := .builtin .append, args := #[s, x], argTypes := #[t, t] })
    (base : Nat) (v : Value) (n : Nat) (xs : List Value) (hs : a.eval s = v) (hown : w.ownsRow base e size v n xs)
    (m c : Nat) (news : List Value) (hx : a.eval x = .slice (some ⟨w.heap.size, 0, none⟩) m c) (hl : news.length = m * size) (h1 : ∀ u ∈ news, u.oneCell' = true)
    (hb : (n + m) * bytes ≤ 140737488355328) (hm : n + m ≤ maxLen) (hbase : base ≤ w.heap.size)
    (h : ∀ v' w', w'.ownsRow base e size v' (n + m) (xs ++ news) → w.grownBy w' v.ownBlock → wpList P ops Q rest (a.put o.dst v') w') :
    wpList P ops Q (o :: rest) a (w.alloc (.cells news.toArray e)) := by
  obtain ⟨i, hi, hz, hsz, hby⟩ := info_parts T.hi
  refine wpList_append_own (w.alloc (.cells news.toArray e)) hgd s x t ho base e i z size bytes T.ht hi hz hsz hby T.hz T.h0 v n xs hs (hown.alloc _) ⟨w.heap.size, 0, none⟩ m c news hx hl ?_ h1 hm hb (by simp; omega) ?_
  · intro j u hu
    rw [add_plain, Nat.zero_add]
    exact (RowAt.new w e news).cell hu
  · intro v' w' h2 h3 _
    exact h v' w' h2 (grownBy_of_alloc h3)

/-- The same, the new block's number spelt as the walk spells it. -/
theorem wpList_app2 (T : SliceTy P t e z size bytes) (hgd : o.guard = none) (s x : Operand) (ho : o.op = .call { callee := .builtin .append, args := #[s, x], argTypes := #[t, t] })
    (base : Nat) (v : Value) (n : Nat) (xs : List Value) (hs : a.eval s = v) (hown : w.ownsRow base e size v n xs)
    (m c : Nat) (news : List Value) (g : Nat) (hx : a.eval x = .slice (some ⟨g, 0, none⟩) m c) (hg : g = w.heap.size) (hl : news.length = m * size) (h1 : ∀ u ∈ news, u.oneCell' = true)
    (hb : (n + m) * bytes ≤ 140737488355328) (hm : n + m ≤ maxLen) (hbase : base ≤ w.heap.size)
    (h : ∀ v' w', w'.ownsRow base e size v' (n + m) (xs ++ news) → w.grownBy w' v.ownBlock → wpList P ops Q rest (a.put o.dst v') w') :
    wpList P ops Q (o :: rest) a (w.alloc (.cells news.toArray e)) := by
  subst hg
  exact wpList_app T hgd s x ho base v n xs hs hown m c news hx hl h1 hb hm hbase h

/-- append(v, y...): y reads as cells; nil and empty too. -/
theorem wpList_appS (T : SliceTy P t e z size bytes) (hgd : o.guard = none) (s x : Operand) (ho : o.op = .call { callee := .builtin .append, args := #[s, x], argTypes := #[t, t] })
    (base : Nat) (v : Value) (n : Nat) (xs : List Value) (hs : a.eval s = v) (hown : w.ownsRow base e size v n xs)
    (B : Nat) (A : Option Addr) (m c : Nat) (news : List Value) (hx : a.eval x = .slice A m c) (hr : SliceIn w B size A m c news) (h1 : ∀ u ∈ news, u.oneCell' = true)
    (hb : (n + m) * bytes ≤ 140737488355328) (hm : n + m ≤ maxLen) (hbase : base ≤ w.heap.size)
    (h : ∀ v' w', w'.ownsRow base e size v' (n + m) (xs ++ news) → w.grownBy w' v.ownBlock → wpList P ops Q rest (a.put o.dst v') w') :
    wpList P ops Q (o :: rest) a w := by
  obtain ⟨i, hi, hz, hsz, hby⟩ := info_parts T.hi
  rcases A with _ | ad
  · have hm0 : m = 0 := by
      rcases Nat.eq_zero_or_pos m with h0 | h0
      · exact h0
      · obtain ⟨b, off, h, _⟩ := hr.2.2.2 h0; cases h
    subst hm0
    have hn : news = [] := List.eq_nil_of_length_eq_zero (by simpa using hr.1)
    subst hn
    have hrun : (Builtin.append_ #[t, t] o.type #[v, .slice none 0 c]).run P w = .ok v w := by
      rcases hown.2 with ⟨rfl, rfl⟩ | ⟨g, cap, cur, rfl, _, _, hnc, _⟩
      · simp [Builtin.append_, run_underlying T.ht, sizeOf, typeInfo, hi, Builtin.lenOf, Builtin.firstCells]
      · simp [Builtin.append_, run_underlying T.ht, sizeOf, typeInfo, hi, Builtin.lenOf, Builtin.firstCells, hnc, storeCells]
    refine wpList_plain hgd fun K hK => ?_
    unfold Oper.wp execOp
    simp only [ho, resolve, invoke, builtin, Sem.run_bind, Sem.run_pure, Result.andThen_ok, List.map_toArray, List.map_cons, List.map_nil, hs, hx, hrun]
    exact hK _ _ (h v w (by simpa using hown) (World.grownBy.refl w _))
  · refine wpList_append_own w hgd s x t ho base e i z size bytes T.ht hi hz hsz hby T.hz T.h0 v n xs hs hown ad m c news hx hr.1 ?_ h1 hm hb hbase (fun v' w' h2 h3 _ => h v' w' h2 h3)
    intro j u hu
    rcases Nat.eq_zero_or_pos m with h0 | h0
    · subst h0
      have hn : news = [] := List.eq_nil_of_length_eq_zero (by simpa using hr.1)
      subst hn
      simp at hu
    · obtain ⟨b, off, h, _, hc⟩ := hr.2.2.2 h0
      injection h with h
      subst h
      rw [add_plain]
      exact hc j u hu
end

theorem run_loadVar_agg {P : Program} (w : World) (b off : Nat) (ty : TypeId) (cs : List Value) (d : TypeDesc) (hc : ∀ j u, cs[j]? = some u → w.cell? ⟨b, off + j, none⟩ = some u)
    (hu : P.underlying ty = some d) (hd : (match d with | .struct _ | .array _ _ => true | _ => false) = true) (hi : (P.info? ty).map (·.size) = some cs.length) :
    (loadVar ty ⟨b, off, none⟩).run P w = .ok (.agg cs.toArray) w := by
  have hl : (loadCells ⟨b, off, none⟩ cs.length).run P w = .ok cs.toArray w :=
    run_loadCells_list (P := P) w ⟨b, off, none⟩ cs (fun j v hv => by rw [add_plain]; exact hc j v hv)
  cases hq : P.info? ty with
  | none => simp [hq] at hi
  | some i =>
    have hs : i.size = cs.length := by simpa [hq] using hi
    have hagg : (isAgg ty).run P w = .ok true w := by
      unfold isAgg
      rw [Sem.run_bind, run_underlying hu w]
      cases d <;> simp_all
    simp [loadVar, Sem.run_bind, hagg, sizeOf, typeInfo, hq, hs, hl]

/-- A struct or an array loaded, from wherever its cells are known. -/
theorem wpList_load_agg {P : Program} {ops : Array Oper} {rest : List Oper} {o : Oper} {a : Act} {w : World} {Q : Exit → Act → World → Prop} (hgd : o.guard = none) (ty : TypeId) (x : Operand) (ho : o.op = .load ty x)
    (b off : Nat) (hx : a.eval x = .pointer (some ⟨b, off, none⟩)) (cs : List Value) (d : TypeDesc) (hc : ∀ j u, cs[j]? = some u → w.cell? ⟨b, off + j, none⟩ = some u)
    (hu : P.underlying ty = some d) (hd : (match d with | .struct _ | .array _ _ => true | _ => false) = true) (hi : (P.info? ty).map (·.size) = some cs.length)
    (h : wpList P ops Q rest (a.put o.dst (.agg cs.toArray)) w) : wpList P ops Q (o :: rest) a w := by
  refine wpList_plain hgd fun K hK => ?_
  have hl := run_loadVar_agg (P := P) w b off ty cs d hc hu hd hi
  unfold Oper.wp execOp
  simp only [ho, hx, Instr.loadAt, Instr.sureAddr, Sem.run_bind, Sem.run_pure, Result.andThen_ok, hl]
  exact hK _ _ h

theorem u8_ty : SliceTy Tryd.prog 22 5 (.int .u8 0) 1 1 := ⟨Tryd.underlying22, by kernel_rfl, rfl, by decide⟩
theorem str_ty : SliceTy Tryd.prog 33 9 (.string ⟨#[]⟩) 1 16 := ⟨Tryd.underlying33, by kernel_rfl, rfl, by decide⟩
end Go.Proofs.YtpmidmdodjgeeaaDoor
