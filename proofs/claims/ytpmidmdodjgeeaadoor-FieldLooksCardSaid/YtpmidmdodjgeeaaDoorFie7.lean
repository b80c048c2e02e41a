/- Walks of layer 3: fields but those of some names. Condition: at most 10^6 fields and names, texts within 10^9 octets. -/
import Derived.Test.YtpmidmdodjgeeaaDoorFie6
import Derived.Test.YtpmidmdodjgeeaaDoorClear
namespace Go.Proofs.YtpmidmdodjgeeaaDoor
open Go.RowKit IH
set_option maxRecDepth 100000
def ofNames (N : List (List UInt8)) (f : Fld) : Bool := N.any fun x => isN f x
theorem withoutL_names (L : List Fld) (N : List (List UInt8)) : withoutL L N = L.filter fun f => !ofNames N f := rfl
theorem withoutN_snoc (L : List Fld) (N : List (List UInt8)) (k : Nat) (f : Fld) (hk : L[k]? = some f) : withoutL (L.take (k + 1)) N = withoutL (L.take k) N ++ if ofNames N f = true then [] else [f] := by
  rw [withoutL_names, withoutL_names, List.take_add_one, hk, List.filter_append]
  cases h : ofNames N f <;> simp [h]
theorem withoutN_none (L : List Fld) (N : List (List UInt8)) (h : L.any (ofNames N) = false) : withoutL L N = L := by
  rw [withoutL_names, List.filter_eq_self]
  intro f hf
  rw [List.any_eq_false] at h
  have := h f hf
  simpa using this
theorem fi_cases {α : Type} (p : α → Bool) (L : List α) : (fi p L = -1 ∧ L.any p = false) ∨ ∃ (i : Nat) (x : α), fi p L = i ∧ L[i]? = some x ∧ p x = true ∧ (L.take i).any p = false := by
  unfold fi
  cases h : L.findIdx? p with
  | none =>
    left
    rw [List.findIdx?_eq_none_iff] at h
    refine ⟨rfl, ?_⟩
    rw [List.any_eq_false]
    intro x hx
    simp [h x hx]
  | some i =>
    right
    obtain ⟨hl, hp, hn⟩ := List.findIdx?_eq_some_iff_getElem.1 h
    refine ⟨i, _, rfl, List.getElem?_eq_getElem hl, hp, ?_⟩
    rw [List.any_eq_false]
    intro x hx
    obtain ⟨j, hj, rfl⟩ := List.mem_iff_getElem.1 hx
    have hj' : j < i := by rw [List.length_take] at hj; omega
    rw [List.getElem_take]
    simpa using hn j hj'
theorem fldsV_set (M : List Fld) (k : Nat) (f : Fld) : ((fldsV M).set (k * 2) (.string ⟨f.1.toArray⟩)).set (k * 2 + 1) (.string ⟨f.2.toArray⟩) = fldsV (M.set k f) := by
  induction M generalizing k with
  | nil => simp [fldsV]
  | cons g M ih =>
    have e : ∀ (g : Fld) M, fldsV (g :: M) = .string ⟨g.1.toArray⟩ :: .string ⟨g.2.toArray⟩ :: fldsV M := fun _ _ => rfl
    cases k with
    | zero => rw [List.set_cons_zero, e, e]; rfl
    | succ k =>
      rw [List.set_cons_succ, e, e, ← ih, show (k + 1) * 2 = k * 2 + 1 + 1 by omega]
      rfl
theorem without1_any (f : Fld) (A : Option Addr) (m c : Nat) (N : List (List UInt8)) (gn : Nat) (w : World) (h1 : f.1.length ≤ 1000000000) (hgn : gn < w.heap.size) (cn : w.cell? ⟨gn, 0, none⟩ = some (.slice A m c)) (hin : SliceIn w w.heap.size 1 A m c (strsV N)) (hs : m ≤ 1000000) (hm : smallS 1000000000 N) :
    Calls Tryd.prog 47 #[.agg #[.string ⟨f.1.toArray⟩, .string ⟨f.2.toArray⟩], .pointer (some ⟨gn, 0, none⟩)] w fun e w' => e = .returned (.bool (ofNames N f)) ∧ Below w.heap.size w w' := by
  have r := RowAt.new w 44 [.string ⟨f.1.toArray⟩, .string ⟨f.2.toArray⟩]
  have CN := ContainsNames_any A m c N f w.heap.size (w.alloc (.cells #[.string ⟨f.1.toArray⟩, .string ⟨f.2.toArray⟩] 44)) ((hin.alloc (Nat.le_refl _) _).more (by simp)) hs hm h1 (by simp) (r.cell (j := 0) rfl) (r.cell (j := 1) rfl)
  have d0 := (World.cell?_alloc_lt w (.cells #[.string ⟨f.1.toArray⟩, .string ⟨f.2.toArray⟩] 44) ⟨gn, 0, none⟩ hgn).trans cn
  unfold ofNames
  generalize (N.any fun x => isN f x) = b at *
  clear r hin hm cn h1
  generalize (⟨f.1.toArray⟩ : ByteArray) = X at *
  generalize (⟨f.2.toArray⟩ : ByteArray) = Y at *
  replace CN := Lib.hid CN
  go_enter Tryd.func47, Tryd.ntmps47
  go_wp2_with (go_at_call 48; refine CN.out.mono ?_; rintro e w2 ⟨rfl, hb2⟩)
  go_ret
  exact ⟨rfl, below_al_step hb2⟩
set_option maxHeartbeats 4000000 in
theorem IndexWithout_any (A : Option Addr) (n c : Nat) (L : List Fld) (A2 : Option Addr) (m c2 : Nat) (N : List (List UInt8)) (gn B : Nat) (w : World) (hin : SliceIn w w.heap.size 2 A n c (fldsV L)) (hs : n ≤ 1000000) (hm : smallF 1000000000 L)
    (hgn : gn < w.heap.size) (cn : w.cell? ⟨gn, 0, none⟩ = some (.slice A2 m c2)) (hB : B ≤ w.heap.size) (hinN : SliceIn w B 1 A2 m c2 (strsV N)) (hsN : m ≤ 1000000) (hmN : smallS 1000000000 N) :
    Calls Tryd.prog 50 #[.slice A n c, .func (.func 47) #[] #[.pointer (some ⟨gn, 0, none⟩)]] w fun e w' => e = .returned (.int .i64 (fi (ofNames N) L)) ∧ Below w.heap.size w w' := by
  have hL := fld_count hin
  have HinN := Lib.hid hinN
  clear hinN
  go_enter Tryd.func50, Tryd.ntmps50
  go_wp2
  go_loopw [8] (fun i wr => ∃ k : Nat, k ≤ n ∧ i = .int .i64 k ∧ (L.take k).any (ofNames N) = false ∧ Below w.heap.size w wr) (fun i _ => n - (intOf i).toNat)
  case atStart => exact ⟨0, by omega, rfl, rfl, Below.refl _ _⟩
  case round =>
    obtain ⟨k, hk, rfl, hno, hbel⟩ := hrel
    by_cases hlt : k < n
    · obtain ⟨f, hf⟩ : ∃ f, L[k]? = some f := ⟨_, List.getElem?_eq_getElem (by omega)⟩
      obtain ⟨b, off, rfl, hb, c0, c1⟩ := fld_at (hin.below hbel) hf
      obtain ⟨m1, m2⟩ := smallF_get hm hf
      have F1 := without1_any f A2 m c2 N gn wr m1 (Nat.lt_of_lt_of_le hgn hbel.size) ((hbel.cell (p := ⟨gn, 0, none⟩) hgn).trans cn) ((HinN.out.below (hbel.mono hB)).more (Nat.le_trans hB hbel.size)) hsN hmN
      cases hp : ofNames N f
      · have hnx := any_snoc hf hp hno
        rw [hp] at F1
        have HN := Lib.hid hnx
        replace F1 := Lib.hid F1
        clear hnx hf hno hp m1 m2
        generalize (⟨f.1.toArray⟩ : ByteArray) = X at *
        generalize (⟨f.2.toArray⟩ : ByteArray) = Y at *
        go_wp2_with (go_at_call 47; refine F1.out.mono ?_; rintro e w2 ⟨rfl, hb2⟩)
        go_roundw
        case rel => exact ⟨k + 1, by omega, by go_num, HN.out, below_step hbel hb2⟩
        case measure => simp [intOf]; omega
      · have hfin := fi_hit hf hp hno
        rw [hp] at F1
        have HF := Lib.hid hfin
        replace F1 := Lib.hid F1
        clear hfin hf hno hp m1 m2
        generalize (⟨f.1.toArray⟩ : ByteArray) = X at *
        generalize (⟨f.2.toArray⟩ : ByteArray) = Y at *
        go_wp2_with (go_at_call 47; refine F1.out.mono ?_; rintro e w2 ⟨rfl, hb2⟩)
        go_ret
        rw [HF.out]
        exact ⟨rfl, below_step hbel hb2⟩
    · obtain rfl : k = n := by omega
      rw [List.take_of_length_le (by omega)] at hno
      have HF := Lib.hid (fi_none hno)
      clear hno
      go_wp2
      go_ret
      rw [HF.out]
      exact ⟨rfl, hbel⟩
theorem fld_zero_one : ∀ v ∈ (Value.agg #[.string ⟨#[]⟩, .string ⟨#[]⟩]).cells.toList, v.oneCell' = true := by
  intro v hv
  simp [Value.cells] at hv
  subst hv
  rfl
theorem own_cell {w : World} {base : Nat} {e : TypeId} {g n cap : Nat} {xs : List Value} (h : w.ownsRow base e 2 (.slice (some ⟨g, 0, none⟩) n cap) n xs) (j : Nat) (hj : j < n * 2) : ∃ v, w.cell? ⟨g, j, none⟩ = some v := by
  have hl := h.1
  exact ⟨_, by rw [h.cellAt j hj, List.getElem?_eq_getElem (by omega)]⟩
set_option maxHeartbeats 8000000 in
theorem delete_any (base : Nat) (v : Value) (L : List Fld) (A2 : Option Addr) (m c2 : Nat) (N : List (List UInt8)) (gn : Nat) (w : World) (hbase : base ≤ w.heap.size) (hrow : w.ownsRow base 44 2 v L.length (fldsV L)) (hs : L.length ≤ 1000000) (hm : smallF 1000000000 L)
    (hgn : gn < base) (cn : w.cell? ⟨gn, 0, none⟩ = some (.slice A2 m c2)) (hinN : SliceIn w base 1 A2 m c2 (strsV N)) (hsN : m ≤ 1000000) (hmN : smallS 1000000000 N) :
    Calls Tryd.prog 45 #[v, .func (.func 47) #[] #[.pointer (some ⟨gn, 0, none⟩)]] w fun e w' => ∃ v', e = .returned v' ∧ w'.ownsRow base 44 2 v' (withoutL L N).length (fldsV (withoutL L N)) ∧ Below base w w' := by
  obtain ⟨A, c, rfl, hsl⟩ := own_slice hrow
  have IX := IndexWithout_any A L.length c L A2 m c2 N gn base w hsl hs hm (Nat.lt_of_lt_of_le hgn hbase) cn hbase hinN hsN hmN
  rcases fi_cases (ofNames N) L with ⟨h1, h2⟩ | ⟨i, f0, h1, h2, h3, h4⟩
  · rw [h1] at IX
    rw [withoutN_none L N h2]
    have Hrow := Lib.hid hrow
    replace IX := Lib.hid IX
    clear h1 h2 hrow hsl hinN hm hmN cn
    go_enter Tryd.func45, Tryd.ntmps45
    go_wp2_with (go_at_call 50; refine IX.out.mono ?_; rintro e w2 ⟨rfl, hb2⟩)
    go_ret
    exact ⟨_, rfl, own_below Hrow.out hb2, hb2.mono hbase⟩
  · have hil : i < L.length := (List.getElem?_eq_some_iff.1 h2).1
    have hst : L.take i = withoutL (L.take (i + 1)) N := by
      rw [withoutN_snoc L N i f0 h2, if_pos h3, List.append_nil, withoutN_none _ N h4]
    obtain ⟨g, cap, hv, hgb⟩ : ∃ g cap, A = some ⟨g, 0, none⟩ ∧ c = cap ∧ base ≤ g := by
      rcases hrow.2 with ⟨h', h0⟩ | ⟨g, cap, cur, h', hb, _⟩
      · omega
      · simp only [Value.slice.injEq, true_and] at h'
        exact ⟨g, cap, h'.1, h'.2, hb⟩
    obtain ⟨rfl, hgb⟩ := hgb
    subst hv
    obtain ⟨n, hn⟩ : ∃ n, L.length = n := ⟨_, rfl⟩
    rw [hn] at IX hs hil hrow hsl
    rw [h1] at IX
    have Hrow := Lib.hid hrow
    have Hst := Lib.hid hst
    have Hn := Lib.hid hn
    have HinN := Lib.hid hinN
    have Hcn := Lib.hid cn
    have hneq : ((i : Int) == -1) = false := by rw [beq_eq_false_iff_ne]; omega
    replace IX := Lib.hid IX
    rw [hn]
    clear h1 h2 h3 h4 hrow hsl hinN cn hst hn
    go_enter Tryd.func45, Tryd.ntmps45
    go_wp2_with (go_at_call 50; refine IX.out.mono ?_; rintro e w2 ⟨rfl, hb2⟩; have B2 := Lib.hid (hb2.mono hbase); have Hrow2 := Lib.hid (own_below Hrow.out hb2); clear hb2)
    go_loopw [5, 6] (fun a b wr => ∃ (I J : Nat) (M : List Fld), a = .int .i64 I ∧ b = .int .i64 J ∧ I < J ∧ J ≤ n ∧ M.length = n ∧ M.take I = withoutL (L.take J) N ∧ M.drop J = L.drop J ∧ wr.ownsRow base 44 2 (.slice (some ⟨g, 0, none⟩) n c) n (fldsV M) ∧ Below base w wr) (fun _ b _ => n - (intOf b).toNat)
    case atStart => exact ⟨i, i + 1, L, rfl, by go_num, by omega, by omega, Hn.out, Hst.out, rfl, Hrow2.out, B2.out⟩
    case round =>
      clear Hrow2 B2 Hrow Hst IX hil hneq
      obtain ⟨I, J, M, rfl, rfl, hIJ, hJ, hM, htk, hdr, hrow, hbel⟩ := hrel
      have Hrow := Lib.hid hrow
      have Htk := Lib.hid htk
      have Hdr := Lib.hid hdr
      have HM := Lib.hid hM
      clear hrow htk hdr hM
      by_cases hlt : J < n
      · obtain ⟨f, hf⟩ : ∃ f, L[J]? = some f := ⟨_, List.getElem?_eq_getElem (by rw [Hn.out]; omega)⟩
        have hfM : M[J]? = some f := by
          have := congrArg (·[0]?) Hdr.out
          simpa [List.getElem?_drop, hf] using this
        obtain ⟨b', off', e', hb', c0, c1⟩ := fld_at (SliceIn.of_own Hrow.out) hfM
        obtain ⟨rfl, rfl⟩ : g = b' ∧ 0 = off' := by simpa using e'
        rw [Nat.zero_add] at c0 c1
        obtain ⟨m1, m2⟩ := smallF_get hm hf
        have hbw := Nat.le_trans hbase hbel.size
        have F1 : Calls Tryd.prog 47 #[.agg #[.string ⟨f.1.toArray⟩, .string ⟨f.2.toArray⟩], .pointer (some ⟨gn, 0, none⟩)] (wr.alloc (.cells #[.string ⟨f.1.toArray⟩, .string ⟨f.2.toArray⟩] 44)) fun e w' => e = .returned (.bool (ofNames N f)) ∧ Below (wr.alloc (.cells #[.string ⟨f.1.toArray⟩, .string ⟨f.2.toArray⟩] 44)).heap.size (wr.alloc (.cells #[.string ⟨f.1.toArray⟩, .string ⟨f.2.toArray⟩] 44)) w' := by
          have hb3 := hbel.alloc hbw (.cells #[.string ⟨f.1.toArray⟩, .string ⟨f.2.toArray⟩] 44)
          exact without1_any f A2 m c2 N gn _ m1 (by simp; omega) ((hb3.cell (p := ⟨gn, 0, none⟩) hgn).trans Hcn.out) ((HinN.out.below hb3).more (by simp; omega)) hsN hmN
        have hsn := withoutN_snoc L N J f hf
        cases hp : ofNames N f
        · rw [hp, if_neg (by simp)] at hsn
          rw [hp] at F1
          have Hsn := Lib.hid hsn
          have Hset := Lib.hid (fldsV_set M I f)
          have HfM := Lib.hid hfM
          replace F1 := Lib.hid F1
          clear hsn hf hfM hp m1 m2 e'
          obtain ⟨X, hX⟩ : ∃ X : ByteArray, (⟨f.1.toArray⟩ : ByteArray) = X := ⟨_, rfl⟩
          obtain ⟨Y, hY⟩ : ∃ Y : ByteArray, (⟨f.2.toArray⟩ : ByteArray) = Y := ⟨_, rfl⟩
          rw [hX, hY] at F1 Hset
          rw [hX] at c0
          rw [hY] at c1
          clear hX hY
          go_wp2_with (go_at_call 47; refine F1.out.mono ?_; rintro e w3 ⟨rfl, hb3⟩; have d0 := new_cell hb3 (j := 0) rfl; have d1 := new_cell hb3 (j := 1) rfl; have R3 := Lib.hid (own_below (Hrow.out.alloc (.cells #[.string X, .string Y] 44)) hb3); have B3 := Lib.hid ((hbel.alloc hbw (.cells #[.string X, .string Y] 44)).trans (hb3.mono (by simp; omega))); clear hb3; obtain ⟨y0, e0⟩ := own_cell R3.out (I * 2) (by omega); have f0 := R3.out.frozenAt (I * 2); obtain ⟨y1, e1⟩ := own_cell (R3.out.stored (I * 2) (.string X)).1 (I * 2 + 1) (by omega); have f1 := (R3.out.stored (I * 2) (.string X)).1.frozenAt (I * 2 + 1))
          go_roundw
          case rel =>
            obtain ⟨q1, q2⟩ := set_two _ R3.out I (.string X) (.string Y)
            rw [Hset.out] at q1
            refine ⟨I + 1, J + 1, M.set I f, by go_num, by go_num, by omega, by omega, by rw [List.length_set]; exact HM.out, ?_, ?_, q1, B3.out.grown q2 (by have := B3.out.size; omega) (fun k hk => by injection hk with hk; omega)⟩
            · rw [Hsn.out, ← Htk.out]
              have : I < M.length := by rw [HM.out]; omega
              rw [List.take_succ_eq_append_getElem (by rw [List.length_set]; exact this), List.getElem_set_self, List.take_set, List.set_eq_of_length_le (by rw [List.length_take]; omega)]
            · have h5 := congrArg (List.drop 1) Hdr.out
              rw [List.drop_drop, List.drop_drop] at h5
              rw [List.drop_set, if_pos (by omega)]
              exact h5
          case measure => simp [intOf]; omega
        · rw [hp, if_pos rfl, List.append_nil] at hsn
          rw [hp] at F1
          have Hsn := Lib.hid hsn
          replace F1 := Lib.hid F1
          clear hsn hf hfM hp m1 m2 e'
          generalize (⟨f.1.toArray⟩ : ByteArray) = X at *
          generalize (⟨f.2.toArray⟩ : ByteArray) = Y at *
          go_wp2_with (go_at_call 47; refine F1.out.mono ?_; rintro e w3 ⟨rfl, hb3⟩; have R3 := Lib.hid (own_below (Hrow.out.alloc (.cells #[.string X, .string Y] 44)) hb3); have B3 := Lib.hid ((hbel.alloc hbw (.cells #[.string X, .string Y] 44)).trans (hb3.mono (by simp; omega))); clear hb3)
          go_roundw
          case rel =>
            refine ⟨I, J + 1, M, rfl, by go_num, by omega, by omega, HM.out, by rw [Hsn.out]; exact Htk.out, ?_, R3.out, B3.out⟩
            have h5 := congrArg (List.drop 1) Hdr.out
            rw [List.drop_drop, List.drop_drop] at h5
            exact h5
          case measure => simp [intOf]; omega
      · obtain rfl : J = n := by omega
        have e : L.take J = L := List.take_of_length_le (by rw [Hn.out]; omega)
        rw [e] at Htk
        have hnc : J ≤ c := by
          have := Hrow.out
          rcases this.2 with ⟨h', _⟩ | ⟨g', cap', cur, h', _, _, hnc, _⟩
          · cases h'
          · simp only [Value.slice.injEq, true_and] at h'
            omega
        clear e
        go_wp2_with (refine wpList_clear fld_ty fld_zero_one rfl _ rfl base g J c I (c - I) (fldsV M) rfl (by omega) Hrow.out ?_; intro w3 hown' hgr)
        go_ret
        have hk : (withoutL L N).length = I := by rw [← Htk.out, List.length_take, HM.out]; omega
        rw [hk, ← Htk.out, ← fldsV_take]
        exact ⟨_, rfl, hown', hbel.grown hgr (Nat.le_trans hbase hbel.size) (fun k hk => by injection hk with hk; omega)⟩
end Go.Proofs.YtpmidmdodjgeeaaDoor
