/- Ke: several texts, one behind the other. -/
import Derived.Test.YtclgkkencpkjpaaGreatDoorOct5
import Derived.Laws.IdiomCopy
import Derived.Test.YtclgkkencpkjpaaGreatDoorAx
import Derived.Test.YtclgkkencpkjpaaGreatDoorShelf
import Derived.Shelf.Spec.SlicesInsertGrow
import Derived.Shelf.Spec.SearchS
/- Own rows of texts as slices.Insert and slices.Delete leave them. No condition but as each states. -/
namespace Go.Proofs.YtclgkkencpkjpaaGreatDoor
open Go.RowKit IH
set_option maxRecDepth 100000
theorem kheap_sets (g : Nat) : ∀ (vs : List Value) (o : Nat) (w : World) (cur : Array Value) (e : TypeId) (fz : Nat × Nat), w.heap[g]? = some (.cells cur e fz) → ∃ cur', (w.setCells g o vs).heap[g]? = some (.cells cur' e fz) ∧ cur'.size = cur.size
  | [], _, _, cur, _, _, h => ⟨cur, h, rfl⟩
  | v :: vs, o, w, cur, e, fz, h => by
    have h1 : (w.setCell ⟨g, o, none⟩ v).heap[g]? = some (.cells (cur.setIfInBounds o v) e fz) := by simp [World.setCell, Array.getElem?_modify, h]
    obtain ⟨c', h2, h3⟩ := kheap_sets g vs (o + 1) _ _ e fz h1
    exact ⟨c', h2, by simpa using h3⟩
theorem kbelow_sets {B g : Nat} (hg : B ≤ g) : ∀ (vs : List Value) (o : Nat) (w W : World), Below B w W → Below B w (W.setCells g o vs)
  | [], _, _, _, h => h
  | v :: vs, o, w, W, h => kbelow_sets hg vs (o + 1) w (W.setCell ⟨g, o, none⟩ v) (h.setCell hg v)
/-- Such a row, by its cells. -/
theorem kown_mk {w : World} {base g cap n : Nat} {e : TypeId} {xs : List Value} {cur : Array Value} (hb : base ≤ g) (hh : w.heap[g]? = some (.cells cur e)) (hs : cur.size = cap) (hn : n ≤ cap) (hm : cap ≤ maxLen) (hl : xs.length = n)
    (hc : ∀ j u, xs[j]? = some u → w.cell? ⟨g, j, none⟩ = some u) : w.ownsRow base e 1 (.slice (some ⟨g, 0, none⟩) n cap) n xs := by
  refine ⟨by omega, .inr ⟨g, cap, cur, rfl, hb, hh, hn, hm, by omega, ?_⟩⟩
  apply List.ext_getElem?
  intro j
  rw [Nat.mul_one, List.getElem?_take]
  split
  · rename_i hj
    have hj' : j < xs.length := by omega
    have h1 := hc j _ (List.getElem?_eq_getElem hj')
    rw [cell_of_row w g j cur e (0, 0) hh] at h1
    rw [List.getElem?_eq_getElem hj', ← h1]
    simp
  · rw [List.getElem?_eq_none (by omega)]
/-- A row's cells, there and plain. -/
theorem krow_there {w : World} {g cap : Nat} {e : TypeId} {cur : Array Value} (hh : w.heap[g]? = some (.cells cur e)) (hs : cur.size = cap) {j : Nat} (hj : j < cap) : (w.cell? ⟨g, j, none⟩).isSome = true := by
  rw [cell_of_row w g j cur e (0, 0) hh, Array.getElem?_eq_getElem (by omega)]
  rfl
theorem krow_plain {w : World} {g : Nat} {e : TypeId} {cur : Array Value} (hh : w.heap[g]? = some (.cells cur e)) (j : Nat) : w.frozen? ⟨g, j, none⟩ = false := by
  simp [World.frozen?, hh]
theorem krow_shape {w : World} {g : Nat} {e : TypeId} {cur : Array Value} (hh : w.heap[g]? = some (.cells cur e)) : w.shape? g = some (e, cur.size) := by
  simp [World.shape?, hh]
theorem kthere_sets {w : World} {g cap : Nat} {e : TypeId} {cur : Array Value} (hh : w.heap[g]? = some (.cells cur e)) (hs : cur.size = cap) (vs : List Value) (o : Nat) {j : Nat} (hj : j < cap) : ((w.setCells g o vs).cell? ⟨g, j, none⟩).isSome = true := by
  obtain ⟨c', h2, h3⟩ := kheap_sets g vs o w cur e (0, 0) hh
  exact krow_there h2 (by omega) hj
/-- One more at a place, the rest moved up. -/
theorem kown_shift {w : World} {base g cap n i : Nat} {e : TypeId} {cs : List Value} {cur : Array Value} (x : Value) (hb : base ≤ g) (hh : w.heap[g]? = some (.cells cur e)) (hs : cur.size = cap) (hm : cap ≤ maxLen) (hl : cs.length = n) (hi : i ≤ n) (hn : n + 1 ≤ cap)
    (hc : ∀ j u, cs[j]? = some u → w.cell? ⟨g, j, none⟩ = some u) : ((w.setCells g (i + 1) (cs.drop i)).setCells g i [x]).ownsRow base e 1 (.slice (some ⟨g, 0, none⟩) (n + 1) cap) (n + 1) (cs.take i ++ x :: cs.drop i) := by
  obtain ⟨c1, h1, s1⟩ := kheap_sets g (cs.drop i) (i + 1) w cur e (0, 0) hh
  obtain ⟨c2, h2, s2⟩ := kheap_sets g [x] i _ c1 e (0, 0) h1
  refine kown_mk hb h2 (by omega) hn hm (by simp; omega) fun j u hu => ?_
  have hti : (cs.take i).length = i := by rw [List.length_take]; omega
  rcases Nat.lt_trichotomy j i with h | h | h
  · rw [List.getElem?_append_left (by omega), List.getElem?_take, if_pos h] at hu
    rw [World.cell?_setCells_out g _ _ _ _ (fun _ _ => .inl (by show j < i; exact h)), World.cell?_setCells_out g _ _ _ _ (fun _ _ => .inl (by show j < i + 1; omega))]
    exact hc j u hu
  · subst h
    rw [List.getElem?_append_right (by omega), hti, Nat.sub_self, List.getElem?_cons_zero] at hu
    injection hu with hu
    subst hu
    have := World.cell?_setCells_in g [x] j (w.setCells g (j + 1) (cs.drop j)) (fun k hk => by
      have : k = 0 := by simpa using hk
      subst this
      exact krow_there h1 (by omega) (j := j + 0) (by omega)) 0 (by simp)
    simpa using this
  · obtain ⟨k, rfl⟩ : ∃ k, j = i + 1 + k := ⟨j - (i + 1), by omega⟩
    rw [List.getElem?_append_right (by omega), hti, show i + 1 + k - i = k + 1 by omega, List.getElem?_cons_succ] at hu
    rw [World.cell?_setCells_out g _ _ _ _ (fun _ _ => .inr (by show i + 1 ≤ i + 1 + k; omega))]
    have hk : k < (cs.drop i).length := (List.getElem?_eq_some_iff.1 hu).1
    rw [World.cell?_setCells_in g (cs.drop i) (i + 1) w (fun q hq => krow_there hh hs (by rw [List.length_drop] at hq; omega)) k hk]
    rw [← hu, List.getElem?_eq_getElem hk]
/-- A new row of the call's own. -/
theorem kown_fresh {w : World} {base cap n : Nat} {e : TypeId} {xs zs : List Value} (hb : base ≤ w.heap.size) (hl : xs.length = n) (hz : n + zs.length = cap) (hm : cap ≤ maxLen) {cur : Array Value} (hcur : cur.toList = xs ++ zs) :
    (w.alloc (.cells cur e)).ownsRow base e 1 (.slice (some ⟨w.heap.size, 0, none⟩) n cap) n xs := by
  have hsz : cur.size = cap := by rw [← Array.length_toList, hcur, List.length_append]; omega
  refine kown_mk hb (heap_alloc_new w _) hsz (by omega) hm hl fun j u hu => ?_
  rw [cell_of_row _ _ j cur e (0, 0) (heap_alloc_new w _)]
  have hj : j < xs.length := (List.getElem?_eq_some_iff.1 hu).1
  rw [← Array.getElem?_toList, hcur, List.getElem?_append_left hj]
  exact hu
/-- One fewer. -/
theorem kown_cells {w : World} {base g cap n : Nat} {e : TypeId} {xs : List Value} (h : w.ownsRow base e 1 (.slice (some ⟨g, 0, none⟩) n cap) n xs) : ∃ cur, base ≤ g ∧ w.heap[g]? = some (.cells cur e) ∧ n ≤ cap ∧ cap ≤ maxLen ∧ cur.size = cap ∧ (∀ j u, xs[j]? = some u → w.cell? ⟨g, j, none⟩ = some u) := by
  rcases h.2 with ⟨h2, _⟩ | ⟨g', cap', cur, hv, hb, hh, hn, hm, hs, ht⟩
  · cases h2
  · injection hv with e1 e2 e3
    injection e1 with e1
    injection e1 with e1
    subst e1 e3
    exact ⟨cur, hb, hh, hn, hm, by omega, fun j u hu => by
      have := h.cells (g := g) rfl j u hu
      rwa [add_plain, Nat.zero_add] at this⟩
end Go.Proofs.YtclgkkencpkjpaaGreatDoor

/- slices.Insert and slices.BinarySearch at texts: the library's contracts laid at this program, then in words of own rows. No condition but as each states. -/
namespace Go.Proofs.YtclgkkencpkjpaaGreatDoor
open Go.RowKit IH
set_option maxRecDepth 100000
def insRen : Go.Shelf.Ren := ⟨fun | 22 => 71 | 29 => 123 | 30 => 124 | 36 => 169 | 17 => 196 | n => n, fun | 24 => 33 | 9 => 9 | 3 => 3 | 4 => 4 | 0 => 0 | n => n, fun | n => n⟩
theorem insLay : Go.Proofs.Lays2.n22 Tryz.prog insRen := {
  mixed := by kernel_rfl
  f17 := Tryz.func196.trans (congrArg some (by kernel_rfl))
  f22 := Tryz.func71.trans (congrArg some (by kernel_rfl))
  f29 := Tryz.func123.trans (congrArg some (by kernel_rfl))
  f30 := Tryz.func124.trans (congrArg some (by kernel_rfl))
  f36 := Tryz.func169.trans (congrArg some (by kernel_rfl))
  t0 := Tryz.underlying0
  a0 := Tryz.isAgg0
  z0 := Tryz.sizeOf0
  v0 := Tryz.zeroValue0
  t3 := Tryz.underlying3
  a3 := Tryz.isAgg3
  z3 := Tryz.sizeOf3
  v3 := Tryz.zeroValue3
  t4 := Tryz.underlying4
  a4 := Tryz.isAgg4
  z4 := Tryz.sizeOf4
  v4 := Tryz.zeroValue4
  t9 := Tryz.underlying9
  a9 := Tryz.isAgg9
  z9 := Tryz.sizeOf9
  v9 := Tryz.zeroValue9
  t24 := Tryz.underlying33
  a24 := Tryz.isAgg33
  z24 := Tryz.sizeOf33
  v24 := Tryz.zeroValue33
  i9 := by kernel_rfl }
def seaRen : Go.Shelf.Ren := ⟨fun | 26 => 70 | 33 => 121 | 34 => 122 | 38 => 168 | n => n, fun | 24 => 33 | 9 => 9 | 3 => 3 | 4 => 4 | 40 => 193 | 0 => 0 | n => n, fun | n => n⟩
theorem seaLay : Go.Proofs.Lays2.n26 Tryz.prog seaRen := {
  mixed := by kernel_rfl
  f26 := Tryz.func70.trans (congrArg some (by kernel_rfl))
  f33 := Tryz.func121.trans (congrArg some (by kernel_rfl))
  f34 := Tryz.func122.trans (congrArg some (by kernel_rfl))
  f38 := Tryz.func168.trans (congrArg some (by kernel_rfl))
  t0 := Tryz.underlying0
  a0 := Tryz.isAgg0
  z0 := Tryz.sizeOf0
  v0 := Tryz.zeroValue0
  t3 := Tryz.underlying3
  a3 := Tryz.isAgg3
  z3 := Tryz.sizeOf3
  v3 := Tryz.zeroValue3
  t4 := Tryz.underlying4
  a4 := Tryz.isAgg4
  z4 := Tryz.sizeOf4
  v4 := Tryz.zeroValue4
  t9 := Tryz.underlying9
  a9 := Tryz.isAgg9
  z9 := Tryz.sizeOf9
  v9 := Tryz.zeroValue9
  t24 := Tryz.underlying33
  a24 := Tryz.isAgg33
  z24 := Tryz.sizeOf33
  v24 := Tryz.zeroValue33
  t40 := Tryz.underlying193
  a40 := Tryz.isAgg193
  z40 := Tryz.sizeOf193
  v40 := Tryz.zeroValue193 }
/-- The model's order of texts is the octets' own. -/
theorem bytesLess_lessB : ∀ (x y : List UInt8), Op.bytesLess x y = lessB x y
  | [], [] => rfl
  | a :: x, [] => rfl
  | [], b :: y => rfl
  | a :: x, b :: y => by
    unfold Op.bytesLess lessB
    rw [bytesLess_lessB x y]
    by_cases h : a = b
    · subst h
      have h1 : ¬ a < a := by rw [UInt8.lt_iff_toNat_lt]; omega
      simp [h1]
    · rw [if_neg h]
      have h2 : (a == b) = false := by rw [beq_eq_false_iff_ne]; exact h
      rw [h2, Bool.false_and, Bool.or_false, Bool.eq_iff_iff, decide_eq_true_eq, decide_eq_true_eq, UInt8.lt_iff_toNat_lt]
theorem toList_mk (x : List UInt8) : (⟨x.toArray⟩ : ByteArray).toList = x := by
  rw [Lib.toList_data]
/-- Where a text stands in a sorted row, and whether. -/
theorem kept_search (A : Option Addr) (n c : Nat) (O : List (List UInt8)) (x : List UInt8) (w : World) (hin : SliceIn w w.heap.size 1 A n c (strsV O)) (hs : sortedB O) (hn : n ≤ 1000000) :
    Calls Tryz.prog 70 #[.slice A n c, .string ⟨x.toArray⟩] w fun e w' => e = .returned (.tuple #[.int .i64 (placeB O x : Nat), .bool (decide (O[placeB O x]? = some x))]) ∧ ∃ q, w' = w.drewN q := by
  have hl : O.length = n := by have := hin.1; rw [strsV_length] at this; omega
  rcases Nat.eq_zero_or_pos n with h0 | h0
  · subst h0
    have hO : O = [] := List.eq_nil_of_length_eq_zero hl
    subst hO
    refine (Any2.slices_BinarySearch_string_empty seaLay A c ⟨x.toArray⟩ w).mono ?_
    rintro e w' ⟨rfl, rfl⟩
    exact ⟨rfl, 0, rfl⟩
  · obtain ⟨b, off, rfl, hb, hc⟩ := hin.2.2.2 h0
    have hk := Any2.slices_BinarySearch_string seaLay b off n c (fun j => ⟨(O.getD j x).toArray⟩) ⟨x.toArray⟩ w (by omega) (fun j hj => by
      refine hc j _ ?_
      rw [strsV_get, List.getElem?_eq_getElem (by omega)]
      simp [List.getD_eq_getElem?_getD, List.getElem?_eq_getElem (show j < O.length by omega)])
    obtain ⟨p1, p2⟩ := placeB_split O x
    have hp : placeB O x ≤ n := by rw [← hl]; exact List.Sublist.length_le (List.takeWhile_sublist _)
    have hg : Lib.bsGo (fun t => Op.bytesLess (⟨(O.getD t x).toArray⟩ : ByteArray).toList (⟨x.toArray⟩ : ByteArray).toList) n 0 n = placeB O x := by
      refine Lib.bsGo_spec _ (placeB O x) (fun t ht => ?_) (fun t ht => ?_) n 0 n (by omega) (Nat.zero_le _) hp
      · rw [toList_mk, toList_mk, bytesLess_lessB]
        refine p1 _ ?_
        rw [List.getD_eq_getElem?_getD, List.getElem?_eq_getElem (by omega)]
        exact List.mem_iff_getElem?.2 ⟨t, by rw [List.getElem?_take, if_pos ht, List.getElem?_eq_getElem (by omega)]; rfl⟩
      · rw [toList_mk, toList_mk, bytesLess_lessB, List.getD_eq_getElem?_getD]
        rcases Nat.lt_or_ge t O.length with hlt | hge
        · rw [List.getElem?_eq_getElem hlt]
          show lessB O[t] x = false
          have hpl : placeB O x < O.length := by omega
          have h1 := p2 _ (List.getElem?_eq_getElem hpl)
          rcases Nat.lt_or_ge (placeB O x) t with h2 | h2
          · cases hq : lessB O[t] x with
            | false => rfl
            | true => rw [lessB_trans (sorted_lt hs hlt h2) hq] at h1; cases h1
          · have e : t = placeB O x := by omega
            subst e
            exact h1
        · rw [List.getElem?_eq_none hge]
          exact lessB_irrefl x
    rw [hg] at hk
    refine hk.mono ?_
    rintro e w' ⟨rfl, q, rfl⟩
    have hd : decide (placeB O x < n ∧ (⟨(O.getD (placeB O x) x).toArray⟩ : ByteArray) = ⟨x.toArray⟩) = decide (O[placeB O x]? = some x) := by
      rw [decide_eq_decide]
      constructor
      · rintro ⟨h1, h2⟩
        rw [List.getD_eq_getElem?_getD, List.getElem?_eq_getElem (by omega)] at h2
        rw [List.getElem?_eq_getElem (by omega)]
        simpa using h2
      · intro h
        have h1 := (List.getElem?_eq_some_iff.1 h).1
        refine ⟨by omega, ?_⟩
        rw [List.getD_eq_getElem?_getD, h]
        rfl
    exact ⟨by rw [hd], q, rfl⟩
/-- One text more at a place of a row of the call's own. -/
theorem kept_insert (base : Nat) (v : Value) (n i vb : Nat) (O : List (List UInt8)) (x : List UInt8) (w : World) (hb : base ≤ w.heap.size) (hown : w.ownsRow base 9 1 v n (strsV O)) (hi : i ≤ n) (hn : n ≤ 1000000)
    (hv : w.heap[vb]? = some (.cells #[.string ⟨x.toArray⟩] 9)) (hne : v.ownBlock ≠ some vb) :
    Calls Tryz.prog 71 #[v, .int .i64 i, .slice (some ⟨vb, 0, none⟩) 1 1] w fun e w' => ∃ v', e = .returned v' ∧ w'.ownsRow base 9 1 v' (n + 1) (strsV (O.take i ++ x :: O.drop i)) ∧ Below base w w' := by
  have hl : (strsV O).length = n := by have := hown.1; omega
  have hxs : strsV (O.take i ++ x :: O.drop i) = (strsV O).take i ++ .string ⟨x.toArray⟩ :: (strsV O).drop i := by simp [strsV, List.map_take, List.map_drop]
  have hvs : ∀ (j : Nat) (u : Value), ([.string ⟨x.toArray⟩] : List Value)[j]? = some u → w.cell? ⟨vb, 0 + j, none⟩ = some u := by
    intro j u hu
    rw [cell_of_row w vb (0 + j) _ _ (0, 0) hv, Nat.zero_add]
    simpa using hu
  have h1v : ∀ v ∈ ([.string ⟨x.toArray⟩] : List Value), v.oneCell' = true := fun v h => by rw [List.mem_singleton.1 h]; rfl
  have hgrow : ∀ (A : Option Addr) (c : Nat), n ≤ c → c < n + 1 → (A = none → n = 0) → (∀ a, A = some a → ∀ j u, (strsV O)[j]? = some u → w.cell? (a.add j) = some u) →
      Calls Tryz.prog 71 #[.slice A n c, .int .i64 n, .slice (some ⟨vb, 0, none⟩) 1 1] w fun e w' => ∃ v', e = .returned v' ∧ w'.ownsRow base 9 1 v' (n + 1) (strsV O ++ [.string ⟨x.toArray⟩]) ∧ Below base w w' := by
    intro A c h1 h2 h3 h4
    refine (Any2.slices_Insert_string_end_grow insLay A n c vb 0 1 1 (strsV O) [.string ⟨x.toArray⟩] w (by omega) h1 h2 (by omega) hl rfl h3 h4 hvs h1v).mono ?_
    rintro e w' ⟨rfl, rfl⟩
    rw [show insRen.t 9 = 9 from rfl]
    have hg1 := grownCap_ge w (n + 1) c 9
    have hg2 := grownCap_le_maxLen w (n + 1) c 9 (by simp only [maxLen]; omega)
    refine ⟨_, rfl, kown_fresh (w := w.drew) (zs := (Builtin.zeroCells (Value.string ⟨#[]⟩).cells (grownCap w (n + 1) c 9 - (n + 1))).toList) hb (by simp [hl]) ?_ hg2 ?_, (below_drewN (Below.refl base w) 1).alloc hb _⟩
    · simp [Builtin.zeroCells, Value.cells]
      omega
    · simp
  rcases hown.2 with ⟨rfl, h0⟩ | ⟨g, cap, cur, rfl, hbg, hh, hnc, hm, hs, _⟩
  · subst h0
    obtain rfl : i = 0 := by omega
    have hO : strsV O = [] := List.eq_nil_of_length_eq_zero hl
    rw [hxs, hO]
    have h := hgrow none 0 (Nat.le_refl _) (by omega) (fun _ => rfl) (fun a h => by cases h)
    rw [hO] at h
    exact h
  · have hs' : cur.size = cap := by omega
    have hcs : ∀ j u, (strsV O)[j]? = some u → w.cell? ⟨g, 0 + j, none⟩ = some u := fun j u hu => by
      have := hown.cells (g := g) rfl j u hu
      rwa [add_plain] at this
    have hcs0 : ∀ j u, (strsV O)[j]? = some u → w.cell? ⟨g, j, none⟩ = some u := fun j u hu => by
      have := hcs j u hu
      rwa [Nat.zero_add] at this
    have hvg : vb ≠ g := fun h => hne (by rw [h]; rfl)
    rw [hxs]
    rcases Nat.lt_or_ge i n with hin | hin
    · by_cases hroom : n + 1 ≤ cap
      · refine (Any2.slices_Insert_string_shift insLay g 0 n cap i vb 0 1 1 (strsV O) [.string ⟨x.toArray⟩] w hin (by omega) hroom (by simp only [maxLen] at hm; omega) hvg hl rfl hcs (fun j hj => by rw [Nat.zero_add]; exact krow_there hh hs' (by omega)) (fun j hj => krow_plain hh _) hvs (strsV_one O) h1v
          9 9 1 cap (krow_shape hv) (by rw [← hs']; exact krow_shape hh) (by omega) (krow_plain hv _) (krow_plain hv _)).mono ?_
        rintro e w' ⟨rfl, rfl⟩
        refine ⟨_, rfl, ?_, kbelow_sets hbg _ _ _ _ (kbelow_sets hbg _ _ _ _ (below_drewN (Below.refl base w) 1))⟩
        have := kown_shift (w := w.drew) (.string ⟨x.toArray⟩) hbg hh hs' hm hl hi hroom hcs0
        simpa using this
      · refine (Any2.slices_Insert_string_grow insLay g 0 n cap i vb 0 1 1 (strsV O) [.string ⟨x.toArray⟩] w hin (by omega) hnc (by omega) (by omega) hl rfl hcs hvs (strsV_one O) h1v).mono ?_
        rintro e w' ⟨rfl, rfl⟩
        rw [show insRen.t 9 = 9 from rfl]
        have hg1 := grownCap_ge w (n + 1) cap 9
        have hg2 := grownCap_le_maxLen w (n + 1) cap 9 (by simp only [maxLen]; omega)
        obtain ⟨G, hG⟩ : ∃ G, grownCap w (n + 1) cap 9 = G := ⟨_, rfl⟩
        rw [hG] at hg1 hg2 ⊢
        obtain ⟨ROW, hROW⟩ : ∃ R : Array Value, ((strsV O).take i).toArray ++ Builtin.zeroCells (Value.string ⟨#[]⟩).cells (n + 1 - i) ++ Builtin.zeroCells (Value.string ⟨#[]⟩).cells (G - (n + 1)) = R := ⟨_, rfl⟩
        rw [hROW]
        have hRs : ROW.size = G := by
          rw [← hROW]
          simp [Builtin.zeroCells, Value.cells, hl]
          omega
        have hRt : ROW.toList.take i = (strsV O).take i := by
          rw [← hROW]
          simp only [Array.toList_append, List.append_assoc]
          rw [List.take_append_of_le_length (by rw [List.length_take, hl]; omega), List.take_take, Nat.min_self]
        refine ⟨_, rfl, ?_, ?_⟩
        · have hnew : (w.alloc (.cells ROW 9)).heap[w.heap.size]? = some (.cells ROW 9) := heap_alloc_new w _
          obtain ⟨c1, q1, r1⟩ := kheap_sets w.heap.size [.string ⟨x.toArray⟩] i (w.alloc (.cells ROW 9)).drew ROW 9 (0, 0) hnew
          obtain ⟨c2, q2, r2⟩ := kheap_sets w.heap.size ((strsV O).drop i) (i + 1) ((w.alloc (.cells ROW 9)).drew.setCells w.heap.size i [.string ⟨x.toArray⟩]).drew c1 9 (0, 0) q1
          refine kown_mk hb q2 (by omega) (by omega) hg2 (by simp [hl]; omega) fun j u hu => ?_
          have hti : ((strsV O).take i).length = i := by rw [List.length_take]; omega
          rcases Nat.lt_trichotomy j i with h | h | h
          · rw [List.getElem?_append_left (by omega)] at hu
            rw [World.cell?_setCells_out w.heap.size _ _ _ _ (fun _ _ => .inl (by show j < i + 1; omega))]
            show World.cell? (World.setCells _ _ _ _) _ = _
            rw [World.cell?_setCells_out w.heap.size _ _ _ _ (fun _ _ => .inl (by show j < i; exact h))]
            show World.cell? (w.alloc (.cells ROW 9)) _ = _
            rw [cell_of_row _ w.heap.size j ROW _ (0, 0) hnew, ← Array.getElem?_toList]
            rw [← hRt, List.getElem?_take, if_pos h] at hu
            exact hu
          · subst h
            rw [List.getElem?_append_right (by omega), hti, Nat.sub_self, List.getElem?_cons_zero] at hu
            injection hu with hu
            subst hu
            rw [World.cell?_setCells_out w.heap.size _ _ _ _ (fun _ _ => .inl (by show j < j + 1; omega))]
            have := World.cell?_setCells_in w.heap.size [.string ⟨x.toArray⟩] j (w.alloc (.cells ROW 9)).drew (fun k hk => by
              have : k = 0 := by simpa using hk
              subst this
              exact krow_there hnew hRs (j := j + 0) (by omega)) 0 (by simp)
            simpa using this
          · obtain ⟨k, rfl⟩ : ∃ k, j = i + 1 + k := ⟨j - (i + 1), by omega⟩
            rw [List.getElem?_append_right (by omega), hti, show i + 1 + k - i = k + 1 by omega, List.getElem?_cons_succ] at hu
            have hk : k < ((strsV O).drop i).length := (List.getElem?_eq_some_iff.1 hu).1
            rw [World.cell?_setCells_in w.heap.size ((strsV O).drop i) (i + 1) ((w.alloc (.cells ROW 9)).drew.setCells w.heap.size i [.string ⟨x.toArray⟩]).drew (fun q hq => krow_there q1 (show c1.size = G by omega) (by rw [List.length_drop] at hq; omega)) k hk]
            rw [← hu, List.getElem?_eq_getElem hk]
        · exact kbelow_sets hb _ _ _ _ (below_drewN (kbelow_sets hb _ _ _ _ (below_drewN ((Below.refl base w).alloc hb _) 1)) 1)
    · obtain rfl : i = n := by omega
      have ht : (strsV O).take i = strsV O := List.take_of_length_le (by omega)
      have hd : (strsV O).drop i = [] := List.drop_eq_nil_of_le (by omega)
      rw [ht, hd]
      by_cases hroom : i + 1 ≤ cap
      · refine (Any2.slices_Insert_string_end_room insLay g 0 i cap vb 0 1 1 [.string ⟨x.toArray⟩] w (by omega) hroom (by simp only [maxLen] at hm; omega) rfl (fun j hj => krow_there hh hs' (by omega)) (fun j hj => krow_plain hh _) hvs h1v).mono ?_
        rintro e w' ⟨rfl, rfl⟩
        refine ⟨_, rfl, ?_, kbelow_sets hbg _ _ _ _ (Below.refl base w)⟩
        have := kown_shift (w := w) (.string ⟨x.toArray⟩) hbg hh hs' hm hl (Nat.le_refl i) hroom hcs0
        rw [hd, ht] at this
        rw [Nat.zero_add]
        exact this
      · exact hgrow (some ⟨g, 0, none⟩) cap hnc (by omega) (fun h => by cases h) (fun a h j u hu => by injection h with h; subst h; rw [add_plain]; exact hcs j u hu)
/-- One text fewer. -/
theorem kept_delete (base : Nat) (v : Value) (n i : Nat) (O : List (List UInt8)) (w : World) (hown : w.ownsRow base 9 1 v n (strsV O)) (hi : i < n) (hn : n ≤ 1000000) :
    Calls Tryz.prog 72 #[v, .int .i64 i, .int .i64 ((i : Int) + 1)] w fun e w' => ∃ v', e = .returned v' ∧ w'.ownsRow base 9 1 v' (n - 1) (strsV (O.take i ++ O.drop (i + 1))) ∧ Below base w w' := by
  have hl : O.length = n := by have := hown.1; rw [strsV_length] at this; omega
  rcases hown.2 with ⟨rfl, h0⟩ | ⟨g, cap, cur, rfl, hbg, hh, hnc, hm, hs, _⟩
  · omega
  · have hs' : cur.size = cap := by omega
    have hcs : ∀ j u, (strsV O)[j]? = some u → w.cell? ⟨g, 0 + j, none⟩ = some u := fun j u hu => by
      have := hown.cells (g := g) rfl j u hu
      rwa [add_plain] at this
    have hk := Tryz.slices_Delete_string_cells g 0 n cap i (i + 1) (fun j => ⟨(O.getD j []).toArray⟩) w hnc (by simp only [maxLen] at hm; omega) (by omega) (by omega) (fun j hj => by
      refine hcs j _ ?_
      rw [strsV_get, List.getElem?_eq_getElem (by omega)]
      simp [List.getD_eq_getElem?_getD, List.getElem?_eq_getElem (show j < O.length by omega)]) (fun j hj => krow_plain hh _)
    rw [show (((i + 1 : Nat) : Int)) = (i : Int) + 1 by omega] at hk
    refine hk.mono ?_
    rintro e w' ⟨rfl, q, rfl⟩
    have hS : Lib.strsOf (fun j => (⟨(O.getD j []).toArray⟩ : ByteArray)) n = O := by
      refine List.ext_getElem (by rw [Lib.strsOf_length, hl]) fun j h1 h2 => ?_
      simp [Lib.strsOf, List.getD_eq_getElem?_getD, List.getElem?_eq_getElem h2]
    rw [hS, show n - (i + 1 - i) = n - 1 by omega, show i + 1 - i = 1 by omega]
    obtain ⟨X, hX⟩ : ∃ X : List Value, (O.take i ++ O.drop (i + 1) ++ List.replicate 1 []).map encStr = X := ⟨_, rfl⟩
    have hXl : X.length = n := by rw [← hX]; simp [hl]; omega
    have hXp : ∀ j u, (strsV (O.take i ++ O.drop (i + 1)))[j]? = some u → X[j]? = some u := fun j u hu => by
      rw [← hX, List.map_append, List.getElem?_append_left (by have := (List.getElem?_eq_some_iff.1 hu).1; simpa [strsV] using this)]
      exact hu
    rw [hX]
    obtain ⟨c1, q1, r1⟩ := kheap_sets g X 0 (w.drewN q) cur 9 (0, 0) hh
    refine ⟨_, rfl, kown_mk hbg q1 (by omega) (by omega) hm (by rw [strsV_length]; simp [hl]; omega) fun j u hu => ?_, kbelow_sets hbg _ _ _ _ (below_drewN (Below.refl base w) q)⟩
    have hj := hXp j u hu
    have hjl := (List.getElem?_eq_some_iff.1 hj).1
    have h1 := World.cell?_setCells_in g X 0 (w.drewN q) (fun k hk => krow_there (w := w.drewN q) hh hs' (j := 0 + k) (by omega)) j hjl
    rw [Nat.zero_add] at h1
    rw [h1, ← hj, List.getElem?_eq_getElem hjl]
end Go.Proofs.YtclgkkencpkjpaaGreatDoor
