/- Walks of layer 3: what is wrong with fields; fields as a header. Condition: at most 10^6 fields, texts within 10^9 octets. -/
import Derived.Test.YtpmidmdodjgeeaaDoorFie12
namespace Go.Proofs.YtpmidmdodjgeeaaDoor
open Go.RowKit IH
set_option maxRecDepth 100000
/-- The region, by a tree, at its own first world. -/
theorem wp_region_tree0 {P : Program} {ops : Array Oper} {Q : Exit → Act → World → Prop} {id : Nat} {a : Act} {w : World} (S : World → Prop) (p : PT) (hm : P.follows .mixedOrders = true)
    (hs : Region.noSelect ops = true) (hl : p.depth ≤ ops.size) (hf : p.isFork = false) (hok : treeOk .any ops p (Array.replicate ops.size false) = true) (hS : S w.drew)
    (h : Hid (S w.drew) → wpT P ops (NoPanic Q) S p a w.drew) : (Code.region id ops true).wp P Q a w :=
  wp_region_noPanic (wp_region_held hm ((tree_sound hs noPanic_hQ p).1 hf _ _ a _ hl hok hS (h (Lib.hid hS))))
theorem strCells_bytes (s : ByteArray) : Lib.strCells s = bytesV s.data.toList := by
  simp [Lib.strCells, bytesV, byteV]
theorem wp_app_str {w : World} {o : Oper} {a : Act} {K : Act → World → Prop} {Q : Exit → Act → World → Prop} (sl x : Operand)
    (ho : o.op = .call { callee := .builtin .append, args := #[sl, x], argTypes := #[22, 9] })
    (base : Nat) (v : Value) (n : Nat) (l : List UInt8) (hs : a.eval sl = v) (hown : w.ownsRow base 5 1 v n (bytesV l)) (s : ByteArray) (hx : a.eval x = .string s)
    (hb : n + s.size ≤ 140737488355328) (hbase : base ≤ w.heap.size)
    (h : ∀ v' w', w'.ownsRow base 5 1 v' (n + s.size) (bytesV (l ++ s.data.toList)) → w.grownBy w' v.ownBlock → K (a.put o.dst v') w') : o.wp Tryd.prog a w K Q := by
  obtain ⟨i0, hi, hz0, hz1, hz2⟩ := info_parts u8_ty.hi
  obtain ⟨v', w', hr, h2, h3, h4⟩ := Lib.run_append_own_string (P := Tryd.prog) w base 22 9 o.type 5 i0 Tryd.underlying22 Tryd.underlying9 hi hz0 hz1 hz2 v n (bytesV l) hown s (by simp only [maxLen]; omega) hb hbase
  rw [strCells_bytes, ← bytesV_append] at h2
  unfold Oper.wp execOp
  simp only [ho, resolve, invoke, builtin, Sem.run_bind, Sem.run_pure, Result.andThen_ok, List.map_toArray, List.map_cons, List.map_nil, hs, hx, hr]
  exact h v' w' h2 h3
theorem wpList_app_str {w : World} {ops : Array Oper} {rest : List Oper} {o : Oper} {a : Act} {Q : Exit → Act → World → Prop} (hgd : o.guard = none) (sl x : Operand)
    (ho : o.op = .call { callee := .builtin .append, args := #[sl, x], argTypes := #[22, 9] })
    (base : Nat) (v : Value) (n : Nat) (l : List UInt8) (hs : a.eval sl = v) (hown : w.ownsRow base 5 1 v n (bytesV l)) (s : ByteArray) (hx : a.eval x = .string s)
    (hb : n + s.size ≤ 140737488355328) (hbase : base ≤ w.heap.size)
    (h : ∀ v' w', w'.ownsRow base 5 1 v' (n + s.size) (bytesV (l ++ s.data.toList)) → w.grownBy w' v.ownBlock → wpList Tryd.prog ops Q rest (a.put o.dst v') w') : wpList Tryd.prog ops Q (o :: rest) a w :=
  wpList_plain hgd fun _ hK => wp_app_str sl x ho base v n l hs hown s hx hb hbase fun v' w' h2 h3 => hK _ _ (h v' w' h2 h3)
theorem ne_type {w : World} {g base size n : Nat} {e e' : TypeId} {cs xs : List Value} {v : Value} (hown : w.ownsRow base e' size v n xs) (hr : RowAt w g e cs) (hne : e ≠ e') : ∀ q, v.ownBlock = some q → q ≠ g := by
  intro q hq he
  subst he
  rcases hown.2 with ⟨rfl, _⟩ | ⟨g', cap, cur, rfl, _, hh, _⟩
  · cases hq
  · simp only [Value.ownBlock, Option.some.injEq] at hq
    subst hq
    obtain ⟨cur2, lo, hi, hh2, _⟩ := hr
    rw [hh] at hh2
    simp only [Option.some.injEq, Obj.cells.injEq] at hh2
    exact hne hh2.2.1.symm
theorem own_count {w : World} {base size n m : Nat} {e : TypeId} {v : Value} {xs : List Value} (h : w.ownsRow base e size v n xs) (hn : n = m) : w.ownsRow base e size v m xs := hn ▸ h
theorem lines_length (L : List Fld) : (L.flatMap line1).length + 2 = sizeL L := by
  have := printL_length L
  unfold printL at this
  rw [List.length_append] at this
  simpa using this
theorem lines_snoc (L : List Fld) (k : Nat) (f : Fld) (hk : L[k]? = some f) : (L.take (k + 1)).flatMap line1 = (L.take k).flatMap line1 ++ (f.1 ++ [58, 32] ++ f.2 ++ [13, 10]) := by
  rw [List.take_add_one, hk]
  simp [line1]
set_option maxHeartbeats 4000000 in
theorem fault_any (A : Option Addr) (n c : Nat) (L : List Fld) (w : World) (hin : SliceIn w w.heap.size 2 A n c (fldsV L)) (hs : n ≤ 1000000) (hm : smallF 1000000000 L) :
    Calls Tryd.prog 53 #[.slice A n c] w fun e w' => e = .returned (.int .i64 (faultL L)) ∧ Below w.heap.size w w' := by
  have hL := fld_count hin
  have CF := ContainsFault_any A n c L w hin hs hm
  have SZ := fun w1 (hb : Below w.heap.size w w1) => fsize_any A n c L w1 ((hin.below hb).more hb.size) hs hm
  have e1 : L.any unfit = L.any (fun f => !fit f) := rfl
  rw [e1] at CF
  have hsb := sizeL_bd 1000000000 L hm
  rw [hL] at hsb
  unfold faultL
  rw [hL]
  generalize sizeL L = z at *
  clear hin hm e1
  replace SZ := Lib.hid SZ
  cases hb : L.any (fun f => !fit f)
  · rw [if_neg (by simp)]
    rw [hb] at CF
    replace CF := Lib.hid CF
    clear hb
    by_cases h1 : 128 < n
    · rw [if_pos h1]
      have h1I : (128 : Int) < (n : Int) := by omega
      clear h1
      go_enter Tryd.func53, Tryd.ntmps53
      go_wp2_with (go_at_call 75; refine CF.out.mono ?_; rintro e w2 ⟨rfl, hb2⟩)
      go_ret
      exact ⟨rfl, hb2⟩
    · rw [if_neg h1]
      have h1I : (n : Int) ≤ (128 : Int) := by omega
      clear h1
      by_cases h2 : 65536 < z
      · rw [if_pos h2]
        have h2I : (65536 : Int) < (z : Int) := by omega
        clear h2
        go_enter Tryd.func53, Tryd.ntmps53
        go_wp2_with (first
          | (go_at_call 75; refine CF.out.mono ?_; rintro e w2 ⟨rfl, hb2⟩)
          | (go_at_call 77; refine (SZ.out _ hb2).mono ?_; rintro e w3 ⟨rfl, hb3⟩))
        go_ret
        exact ⟨rfl, below_step hb2 hb3⟩
      · rw [if_neg h2]
        have h2I : (z : Int) ≤ (65536 : Int) := by omega
        clear h2
        go_enter Tryd.func53, Tryd.ntmps53
        go_wp2_with (first
          | (go_at_call 75; refine CF.out.mono ?_; rintro e w2 ⟨rfl, hb2⟩)
          | (go_at_call 77; refine (SZ.out _ hb2).mono ?_; rintro e w3 ⟨rfl, hb3⟩))
        go_ret
        exact ⟨rfl, below_step hb2 hb3⟩
  · rw [if_pos rfl]
    rw [hb] at CF
    replace CF := Lib.hid CF
    clear hb
    go_enter Tryd.func53, Tryd.ntmps53
    go_wp2_with (go_at_call 75; refine CF.out.mono ?_; rintro e w2 ⟨rfl, hb2⟩)
    go_ret
    exact ⟨rfl, hb2⟩
theorem fault_zero {L : List Fld} (h : faultL L = 0) : L.length ≤ 128 ∧ sizeL L ≤ 65536 := by
  unfold faultL at h
  split at h
  · cases h
  · split at h
    · cases h
    · split at h
      · cases h
      · omega
set_option maxHeartbeats 4000000 in
theorem fprint_any (A : Option Addr) (n c : Nat) (L : List Fld) (w : World) (hin : SliceIn w w.heap.size 2 A n c (fldsV L)) (hs : n ≤ 1000000) (hm : smallF 1000000000 L) :
    Calls Tryd.prog 26 #[.slice A n c] w fun e w' => ∃ v, e = .returned (.tuple #[v, .int .i64 (faultL L)]) ∧ w'.ownsRow w.heap.size 5 1 v (if faultL L = 0 then printL L else []).length (bytesV (if faultL L = 0 then printL L else [])) ∧ Below w.heap.size w w' := by
  have hL := fld_count hin
  have FA := fault_any A n c L w hin hs hm
  by_cases h0 : faultL L = 0
  · obtain ⟨z1, z2⟩ := fault_zero h0
    rw [if_pos h0, h0]
    rw [h0] at FA
    have HFA := Lib.hid FA
    have Hin := Lib.hid hin
    have HL := Lib.hid hL
    have Hz := Lib.hid z2
    clear FA hin h0 z2 hL
    go_enter Tryd.func26, Tryd.ntmps26
    go_wp2_with (go_at_call 53; refine HFA.out.mono ?_; rintro e w1 ⟨rfl, hb1⟩; have B1 := Lib.hid hb1; clear hb1)
    go_loopw [5, 15] (fun v i wr => ∃ k : Nat, k ≤ n ∧ i = .int .i64 k ∧ wr.ownsRow w.heap.size 5 1 v ((L.take k).flatMap line1).length (bytesV ((L.take k).flatMap line1)) ∧ Below w.heap.size w wr) (fun _ i _ => n - (intOf i).toNat)
    case atStart => exact ⟨0, by omega, rfl, World.ownsRow_nil _ _ _ _, B1.out⟩
    case round =>
      clear B1 HFA
      obtain ⟨k, hk, rfl, hrow, hbel⟩ := hrel
      have Hrow := Lib.hid hrow
      clear hrow
      by_cases hlt : k < n
      · obtain ⟨f, hf⟩ : ∃ f, L[k]? = some f := ⟨_, List.getElem?_eq_getElem (by rw [HL.out]; omega)⟩
        obtain ⟨b, off, rfl, hb, c0, c1⟩ := fld_at (Hin.out.below hbel) hf
        have hsn := lines_snoc L k f hf
        have hlen := lines_length (L.take k)
        have hsz := sizeL_snoc L k f hf
        have hmo := sizeL_mono L (k + 1)
        have hz := Hz.out
        obtain ⟨X, hX⟩ : ∃ X : ByteArray, (⟨f.1.toArray⟩ : ByteArray) = X := ⟨_, rfl⟩
        obtain ⟨Y, hY⟩ : ∃ Y : ByteArray, (⟨f.2.toArray⟩ : ByteArray) = Y := ⟨_, rfl⟩
        have hXs : X.size = f.1.length := by rw [← hX, size_mk]
        have hYs : Y.size = f.2.length := by rw [← hY, size_mk]
        have hXd : X.data.toList = f.1 := by rw [← hX]
        have hYd : Y.data.toList = f.2 := by rw [← hY]
        obtain ⟨P0, hP0⟩ : ∃ P0, (L.take k).flatMap line1 = P0 := ⟨_, rfl⟩
        rw [hP0] at hsn hlen Hrow
        rw [hX] at c0
        rw [hY] at c1
        have k1 : P0.length ≤ 65536 := by omega
        have k2 : X.size ≤ 65536 := by omega
        have k3 : Y.size ≤ 65536 := by omega
        have hnx : (L.take (k + 1)).flatMap line1 = (((P0 ++ X.data.toList) ++ [58, 32]) ++ Y.data.toList) ++ [13, 10] := by rw [hsn, hXd, hYd]; simp
        have Hnx := Lib.hid hnx
        clear hsn hlen hsz hmo hz hX hY hXs hYs hXd hYd hP0 hnx hf
        go_upto_region 8 with fail
        have FO : Hid ((wr.alloc (.cells #[.string X, .string Y] 44)).drew.ownsRow w.heap.size 5 1 _ P0.length (bytesV P0)) := Lib.hid (Hrow.out.alloc (.cells #[.string X, .string Y] 44))
        have hbs := hbel.size
        refine wp_region_tree0 (fun W => Below w.heap.size w W ∧ RowAt W wr.heap.size 44 [.string X, .string Y]) (.take 0 (.take 1 (.take 2 (.take 5 (.take 6 (.node (.fork 3 (.node (.fork 4 (.node (.fork 7 (.node (.fork 8 (.take 9 (.done)) (.stop))) (.stop))) (.stop))) (.stop)))))))) (by kernel_rfl) (by kernel_rfl) (of_decide_eq_true (by kernel_rfl)) rfl (by kernel_rfl) (⟨below_drewN (hbel.alloc hbs _) 1, (RowAt.new wr 44 [.string X, .string Y]).drewN 1⟩) ?_
        intro hH
        iterate 5
          refine tree_take (v := ?_) rfl (by rfl) ?_ ?_
          rotate_left
          · intro w2 hSw
            have e0 := hSw.2.cell (j := 0) rfl
            have e1 := hSw.2.cell (j := 1) rfl
            clear hSw
            go_simp
            try with_reducible rfl
          try simp only [Act.put, List.setIfInBounds_toArray, List.set_cons_zero, List.set_cons_succ]
        refine tree_node ?_
        refine tree_move rfl (by rfl) (fun K hK => ?_) ?_
        · refine wp_app_str _ _ rfl w.heap.size _ _ P0 rfl FO.out X rfl (by omega) hH.out.1.size ?_
          intro v3 w3 hown3 hgr3
          refine hK.out _ _ (⟨hH.out.1.grown hgr3 hH.out.1.size (fun q hq => (FO.out.lt q hq).1), row_grown hH.out.2 hgr3 (ne_type FO.out hH.out.2 (by decide))⟩) ?_
          replace FO := Lib.hid hown3
          clear hH hK K hown3 hgr3
          intro hH
          try simp only [Act.put, List.setIfInBounds_toArray, List.set_cons_zero, List.set_cons_succ]
          refine tree_node ?_
          refine tree_move rfl (by rfl) (fun K hK => ?_) ?_
          · refine wp_app_str _ _ rfl w.heap.size _ _ _ rfl FO.out ⟨#[58, 32]⟩ rfl (by simp [mk_size]; omega) hH.out.1.size ?_
            intro v3 w3 hown3 hgr3
            refine hK.out _ _ (⟨hH.out.1.grown hgr3 hH.out.1.size (fun q hq => (FO.out.lt q hq).1), row_grown hH.out.2 hgr3 (ne_type FO.out hH.out.2 (by decide))⟩) ?_
            replace FO := Lib.hid hown3
            clear hH hK K hown3 hgr3
            intro hH
            try simp only [Act.put, List.setIfInBounds_toArray, List.set_cons_zero, List.set_cons_succ]
            refine tree_node ?_
            refine tree_move rfl (by rfl) (fun K hK => ?_) ?_
            · refine wp_app_str _ _ rfl w.heap.size _ _ _ rfl FO.out Y rfl (by simp [mk_size]; omega) hH.out.1.size ?_
              intro v3 w3 hown3 hgr3
              refine hK.out _ _ (⟨hH.out.1.grown hgr3 hH.out.1.size (fun q hq => (FO.out.lt q hq).1), row_grown hH.out.2 hgr3 (ne_type FO.out hH.out.2 (by decide))⟩) ?_
              replace FO := Lib.hid hown3
              clear hH hK K hown3 hgr3
              intro hH
              try simp only [Act.put, List.setIfInBounds_toArray, List.set_cons_zero, List.set_cons_succ]
              refine tree_node ?_
              refine tree_move rfl (by rfl) (fun K hK => ?_) ?_
              · refine wp_app_str _ _ rfl w.heap.size _ _ _ rfl FO.out ⟨#[13, 10]⟩ rfl (by simp [mk_size]; omega) hH.out.1.size ?_
                intro v3 w3 hown3 hgr3
                refine hK.out _ _ (⟨hH.out.1.grown hgr3 hH.out.1.size (fun q hq => (FO.out.lt q hq).1), row_grown hH.out.2 hgr3 (ne_type FO.out hH.out.2 (by decide))⟩) ?_
                replace FO := Lib.hid hown3
                clear hH hK K hown3 hgr3
                intro hH
                try simp only [Act.put, List.setIfInBounds_toArray, List.set_cons_zero, List.set_cons_succ]
                iterate 1
                  refine tree_take (v := ?_) rfl (by rfl) ?_ ?_
                  rotate_left
                  · intro w2 hSw
                    have e0 := hSw.2.cell (j := 0) rfl
                    have e1 := hSw.2.cell (j := 1) rfl
                    clear hSw
                    go_simp
                    try with_reducible rfl
                  try simp only [Act.put, List.setIfInBounds_toArray, List.set_cons_zero, List.set_cons_succ]
                refine tree_done ?_
                have B9 := Lib.hid hH.out.1
                clear hH
                go_wp2
                go_roundw
                case rel => exact ⟨k + 1, by omega, by go_num, by rw [Hnx.out]; exact own_count FO.out (by simp [mk_size]; omega), B9.out⟩
                case measure => simp [intOf]; omega
              exact tree_stop
            exact tree_stop
          exact tree_stop
        exact tree_stop
      · obtain rfl : k = n := by omega
        have e : L.take k = L := List.take_of_length_le (by rw [HL.out]; omega)
        rw [e] at Hrow
        have hlen := lines_length L
        have hz := Hz.out
        have k1 : (L.flatMap line1).length ≤ 65536 := by omega
        have hbs := hbel.size
        obtain ⟨PL, hPL⟩ : ∃ PL, L.flatMap line1 = PL := ⟨_, rfl⟩
        rw [hPL] at Hrow k1
        have HPL := Lib.hid hPL
        clear e hlen hz hPL
        go_wp2_with (at_builtin; refine wpList_app_str rfl _ _ rfl w.heap.size _ _ _ rfl Hrow.out ⟨#[13, 10]⟩ rfl (by simp [mk_size]; omega) hbs ?_; intro v3 w3 hown3 hgr3)
        go_ret2
        refine ⟨_, rfl, ?_, hbel.grown hgr3 hbs (fun q hq => (Hrow.out.lt q hq).1)⟩
        unfold printL
        rw [HPL.out, List.length_append]
        exact hown3
  · rw [if_neg h0]
    have hne : (faultL L != 0) = true := by rw [bne, Bool.not_eq_true', beq_eq_false_iff_ne]; exact h0
    generalize faultL L = fl at *
    have HFA := Lib.hid FA
    clear FA hin h0 hm
    go_enter Tryd.func26, Tryd.ntmps26
    go_wp2_with (go_at_call 53; refine HFA.out.mono ?_; rintro e w1 ⟨rfl, hb1⟩)
    go_ret2
    exact ⟨_, rfl, World.ownsRow_nil _ _ _ _, hb1⟩
end Go.Proofs.YtpmidmdodjgeeaaDoor
